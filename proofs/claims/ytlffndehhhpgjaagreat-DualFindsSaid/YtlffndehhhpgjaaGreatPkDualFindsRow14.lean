/- Walks and plain laws for DualFindsRow, part 14. -/
import Derived.Test.YtlffndehhhpgjaaGreatPkDualFindsRow13
namespace Go.Proofs.YtlffndehhhpgjaaGreat
set_option linter.unusedVariables false
set_option linter.unusedSimpArgs false
set_option maxRecDepth 100000
set_option maxHeartbeats 4000000
section
open Go.RowKit
theorem NatV.slice {w : World} {v : Value} {L : Nat} {N : Int} (h : NatV w v L N) : ∃ a n cap, v = .slice a n cap := by
 obtain ⟨a, n, cap, l, h1, _⟩ := h
 exact ⟨a, n, cap, h1⟩
def RatQ (w : World) (v : Value) (L : Nat) (s : Bool) (N D : Int) : Prop := ∃ a n c b m e, v = .agg #[.bool s, .slice a n c, .slice b m e] ∧ NatV w (.slice a n c) L N ∧ NatV w (.slice b m e) L D
theorem RatQ.below {w w' : World} {v : Value} {L : Nat} {s : Bool} {N D : Int} (h : RatQ w v L s N D) (hb : Below w.heap.size w w') : RatQ w' v L s N D := by
 obtain ⟨a, n, c, b, m, e, h1, h2, h3⟩ := h
 exact ⟨a, n, c, b, m, e, h1, h2.below hb, h3.below hb⟩
theorem RatQ.le {w : World} {v : Value} {L K : Nat} {s : Bool} {N D : Int} (h : RatQ w v L s N D) (hk : L <= K) : RatQ w v K s N D := by
 obtain ⟨a, n, c, b, m, e, h1, h2, h3⟩ := h
 exact ⟨a, n, c, b, m, e, h1, h2.le hk, h3.le hk⟩
theorem NatV.keeps3 {w : World} {v0 : Value} {L : Nat} {N : Int} {g : Nat} {u v z : Value} (h : NatV w v0 L N) (hg : ∃ c, w.heap[g]? = some (.cells c 37 (0, 0)) ∧ ∀ x : Int, ∀ o : Nat, c[o]? ≠ some (.int .i64 x)) : NatV (((w.setCell ⟨g, 0, none⟩ u).setCell ⟨g, 1, none⟩ v).setCell ⟨g, 2, none⟩ z) v0 L N := by
 obtain ⟨a, n, cap, l, h1, h2, h3, h4, h5⟩ := h
 refine ⟨a, n, cap, l, h1, h2, h3, fun j hj => ?_, h5⟩
 obtain ⟨b, o, e, hb, hc⟩ := h4 j hj
 refine ⟨b, o, e, by simpa using hb, ?_⟩
 have hne : b ≠ g := by
  rintro rfl
  obtain ⟨c, hc1, hc2⟩ := hg
  simp [World.cell?, hc1] at hc
  exact hc2 _ _ hc
 rw [World.cell?_setCell_far _ _ _ _ (fun h => hne h.symm), World.cell?_setCell_far _ _ _ _ (fun h => hne h.symm), World.cell?_setCell_far _ _ _ _ (fun h => hne h.symm)]
 exact hc
def zFS (x y : Bool × Int × Int) : Bool × Int × Int :=
 if x.1 = y.1 then (x.1, x.2.1 * y.2.2 + y.2.1 * x.2.2, x.2.2 * y.2.2)
 else if y.2.1 * x.2.2 <= x.2.1 * y.2.2 then (x.1, x.2.1 * y.2.2 - y.2.1 * x.2.2, x.2.2 * y.2.2)
 else (y.1, y.2.1 * x.2.2 - x.2.1 * y.2.2, x.2.2 * y.2.2)
theorem cmpI_ge {V U : Int} : (0 <= cmpI V U) ↔ U <= V := by unfold cmpI; split <;> (try split) <;> omega
theorem zON (w : World) (v u : Value) (L K : Nat) (s t : Bool) (N D M E : Int) (h : RatQ w v L s N D) (k : RatQ w u K t M E) (hL : L <= 100) (hK : K <= 100) :
 Calls Tryz.prog 24 #[v, u] w fun e w' => ∃ x, e = .returned x ∧ RatQ w' x (L + K + 1) (zFS (s, N, D) (t, M, E)).1 (zFS (s, N, D) (t, M, E)).2.1 (zFS (s, N, D) (t, M, E)).2.2 ∧ Below w.heap.size w w' := by
 obtain ⟨na, nn, nc, da, dn, dc, rfl, hN, hD⟩ := h
 obtain ⟨ma, mn, mc, ea, en, ec, rfl, hM, hE⟩ := k
 obtain ⟨s0, hs⟩ := exq (w.heap.size)
 obtain ⟨wa, hwa⟩ := exq (((w.alloc (.cells #[.bool s, .slice na nn nc, .slice da dn dc] 37)).alloc (.cells #[.bool t, .slice ma mn mc, .slice ea en ec] 37)).alloc (.cells #[.bool false, .slice none 0 0, .slice none 0 0] 37))
 have hba : Below w.heap.size w wa := by rw [hwa]; exact (((Below.refl _ _).alloc (Nat.le_refl _) _).alloc (by simp) _).alloc (by simp; omega) _
 have q0 : wa.heap[s0 + 2]? = some (.cells #[.bool false, .slice none 0 0, .slice none 0 0] 37 (0, 0)) := by
  have := World.alloc_heap_new ((w.alloc (.cells #[.bool s, .slice na nn nc, .slice da dn dc] 37)).alloc (.cells #[.bool t, .slice ma mn mc, .slice ea en ec] 37)) (.cells #[.bool false, .slice none 0 0, .slice none 0 0] 37)
  rw [hwa, hs]
  simpa using this
 have hs1 : s0 + 2 < wa.heap.size := (Array.getElem?_eq_some_iff.1 q0).1
 have hc : ∀ o v, (#[Value.bool s, .slice na nn nc, .slice da dn dc] : Array Value)[o]? = some v -> wa.cell? ⟨s0, o, none⟩ = some v := fun o v h => by
  rw [hwa, hs, World.cell?_alloc_past _ _ _ (by simp; omega), World.cell?_alloc_past _ _ _ (by simp), World.cell?_alloc_at _ _ _ _ rfl]; exact h
 have hc2 : ∀ o v, (#[Value.bool t, .slice ma mn mc, .slice ea en ec] : Array Value)[o]? = some v -> wa.cell? ⟨s0 + 1, o, none⟩ = some v := fun o v h => by
  rw [hwa, hs, World.cell?_alloc_past _ _ _ (by simp), World.cell?_alloc_at _ _ _ _ (by simp)]; exact h
 have HS := hid (fun (Y : World) (hY : Below wa.heap.size wa Y) => show Y.cell? ⟨s0, 0, none⟩ = some (.bool s) ∧ Y.cell? ⟨s0, 1, none⟩ = some (.slice na nn nc) ∧ Y.cell? ⟨s0, 2, none⟩ = some (.slice da dn dc) ∧ Y.cell? ⟨s0 + 1, 0, none⟩ = some (.bool t) ∧ Y.cell? ⟨s0 + 1, 1, none⟩ = some (.slice ma mn mc) ∧ Y.cell? ⟨s0 + 1, 2, none⟩ = some (.slice ea en ec) from by
  have k0 : ∀ o, Y.cell? ⟨s0, o, none⟩ = wa.cell? ⟨s0, o, none⟩ := fun o => hY.cell (p := ⟨s0, o, none⟩) (by show s0 < _; omega)
  have k1 : ∀ o, Y.cell? ⟨s0 + 1, o, none⟩ = wa.cell? ⟨s0 + 1, o, none⟩ := fun o => hY.cell (p := ⟨s0 + 1, o, none⟩) (by show s0 + 1 < _; omega)
  exact ⟨(k0 0).trans (hc 0 _ rfl), (k0 1).trans (hc 1 _ rfl), (k0 2).trans (hc 2 _ rfl), (k1 0).trans (hc2 0 _ rfl), (k1 1).trans (hc2 1 _ rfl), (k1 2).trans (hc2 2 _ rfl)⟩)
 have HR := hid (fun (Y : World) (hY : Below wa.heap.size wa Y) => show Y.cell? ⟨s0 + 2, 0, none⟩ = some (.bool false) ∧ Y.cell? ⟨s0 + 2, 1, none⟩ = some (.slice none 0 0) ∧ Y.cell? ⟨s0 + 2, 2, none⟩ = some (.slice none 0 0) ∧ (∀ o, Y.frozen? ⟨s0 + 2, o, none⟩ = false) ∧ s0 + 2 < Y.heap.size from by
  have h1 := (hY.block (s0 + 2) hs1).trans q0
  exact ⟨by simp [World.cell?, h1], by simp [World.cell?, h1], by simp [World.cell?, h1], fun o => by simp [World.frozen?, h1], (Array.getElem?_eq_some_iff.1 h1).1⟩)
 have HFIN := hid (fun (Y : World) (hY : Below wa.heap.size wa Y) (x y z : Value) => show Below w.heap.size w (((Y.setCell ⟨s0 + 2, 0, none⟩ x).setCell ⟨s0 + 2, 1, none⟩ y).setCell ⟨s0 + 2, 2, none⟩ z) from
  zAD (zAD (zAD (zAA hba hY) (by omega) 0 x) (by omega) 1 y) (by omega) 2 z)
 have HNN := hid (fun (Y : World) (hY : Below wa.heap.size wa Y) => And.intro (hN.below (zAA hba hY)) (And.intro (hD.below (zAA hba hY)) (And.intro (hM.below (zAA hba hY)) (hE.below (zAA hba hY)))))
 have HNG := hid (fun (Y : World) (hY : Below wa.heap.size wa Y) => show ∃ c, Y.heap[s0 + 2]? = some (.cells c 37 (0, 0)) ∧ ∀ x : Int, ∀ o : Nat, c[o]? ≠ some (.int .i64 x) from
  ⟨_, (hY.block (s0 + 2) hs1).trans q0, fun x o => by match o with | 0 => simp | 1 => simp | 2 => simp | o + 3 => simp⟩)
 clear hba q0 hs1 hc hc2 hN hD hM hE
 go_enter Tryz.func24, Tryz.ntmps24
 go_wp2_with fail
 rw [<- hs, <- hwa]
 clear hs hwa
 refine zAG (fun j' X => wAll j' = true -> X.cell? ⟨s0, 0, none⟩ = some (.bool s) ∧ X.cell? ⟨s0, 1, none⟩ = some (.slice na nn nc) ∧ X.cell? ⟨s0, 2, none⟩ = some (.slice da dn dc) ∧ X.cell? ⟨s0 + 1, 0, none⟩ = some (.bool t) ∧ X.cell? ⟨s0 + 1, 1, none⟩ = some (.slice ma mn mc) ∧ X.cell? ⟨s0 + 1, 2, none⟩ = some (.slice ea en ec)) (by kernel_rfl) ?_
 have hbd : Below wa.heap.size wa wa.drew := (Below.refl _ _).drew
 generalize wa.drew = wd at hbd ⊢
 refine AnyT.tD (i := 0) (v := .pointer (some ⟨s0, 1, none⟩)) rfl rfl (by rintro w' ⟨y1, y2, y3, y4, y5, y6⟩; go_simp) (HS.out _ hbd) ?_; go_frame
 refine AnyT.tD (i := 1) (v := .slice na nn nc) rfl rfl (by rintro w' ⟨y1, y2, y3, y4, y5, y6⟩; go_simp) (HS.out _ hbd) ?_; go_frame
 refine AnyT.tD (i := 2) (v := .pointer (some ⟨s0 + 1, 2, none⟩)) rfl rfl (by rintro w' ⟨y1, y2, y3, y4, y5, y6⟩; go_simp) (HS.out _ hbd) ?_; go_frame
 refine AnyT.tD (i := 3) (v := .slice ea en ec) rfl rfl (by rintro w' ⟨y1, y2, y3, y4, y5, y6⟩; go_simp) (HS.out _ hbd) ?_; go_frame
 refine AnyT.tD (i := 5) (v := .pointer (some ⟨s0 + 1, 1, none⟩)) rfl rfl (by rintro w' ⟨y1, y2, y3, y4, y5, y6⟩; go_simp) (HS.out _ hbd) ?_; go_frame
 refine AnyT.tD (i := 6) (v := .slice ma mn mc) rfl rfl (by rintro w' ⟨y1, y2, y3, y4, y5, y6⟩; go_simp) (HS.out _ hbd) ?_; go_frame
 refine AnyT.tD (i := 7) (v := .pointer (some ⟨s0, 2, none⟩)) rfl rfl (by rintro w' ⟨y1, y2, y3, y4, y5, y6⟩; go_simp) (HS.out _ hbd) ?_; go_frame
 refine AnyT.tD (i := 8) (v := .slice da dn dc) rfl rfl (by rintro w' ⟨y1, y2, y3, y4, y5, y6⟩; go_simp) (HS.out _ hbd) ?_; go_frame
 refine AnyT.tD (i := 10) (v := .pointer (some ⟨s0, 2, none⟩)) rfl rfl (by rintro w' ⟨y1, y2, y3, y4, y5, y6⟩; go_simp) (HS.out _ hbd) ?_; go_frame
 refine AnyT.tD (i := 11) (v := .slice da dn dc) rfl rfl (by rintro w' ⟨y1, y2, y3, y4, y5, y6⟩; go_simp) (HS.out _ hbd) ?_; go_frame
 refine AnyT.tD (i := 12) (v := .pointer (some ⟨s0 + 1, 2, none⟩)) rfl rfl (by rintro w' ⟨y1, y2, y3, y4, y5, y6⟩; go_simp) (HS.out _ hbd) ?_; go_frame
 refine AnyT.tD (i := 13) (v := .slice ea en ec) rfl rfl (by rintro w' ⟨y1, y2, y3, y4, y5, y6⟩; go_simp) (HS.out _ hbd) ?_; go_frame
 refine AnyT.nx (i := 4) rfl ?_
 go_wp2_with (go_at_call 75; refine (zKZ _ _ _ L K _ _ (HNN.out _ hbd).1 (HNN.out _ hbd).2.2.2 (by omega) (by omega)).mono ?_; rintro e w1 ⟨vw1, rfl, hvw1, hbw1⟩; refine Stop.of ?_)
 refine Stop.go ?_
 obtain ⟨aw1, nw1, cw1, rfl⟩ := hvw1.slice
 have HVw1 := hid hvw1
 have HB1 := hid (zAA hbd hbw1)
 have HBXw1 := hid hbw1
 clear hvw1 hbw1
 go_wp2
 refine ⟨fun _ => HS.out _ HB1.out, ?_⟩
 refine AnyT.nx (i := 9) rfl ?_
 go_wp2_with (go_at_call 75; refine (zKZ _ _ _ K L _ _ (HNN.out _ HB1.out).2.2.1 (HNN.out _ HB1.out).2.1 (by omega) (by omega)).mono ?_; rintro e w2 ⟨vw2, rfl, hvw2, hbw2⟩; refine Stop.of ?_)
 refine Stop.go ?_
 obtain ⟨aw2, nw2, cw2, rfl⟩ := hvw2.slice
 have HVw2 := hid hvw2
 have HB2 := hid (zAA HB1.out hbw2)
 have HBXw2 := hid hbw2
 clear hvw2 hbw2
 go_wp2
 refine ⟨fun _ => HS.out _ HB2.out, ?_⟩
 refine AnyT.nx (i := 14) rfl ?_
 go_wp2_with (go_at_call 75; refine (zKZ _ _ _ L K _ _ (HNN.out _ HB2.out).2.1 (HNN.out _ HB2.out).2.2.2 (by omega) (by omega)).mono ?_; rintro e w3 ⟨vw3, rfl, hvw3, hbw3⟩; refine Stop.of ?_)
 refine Stop.go ?_
 obtain ⟨aw3, nw3, cw3, rfl⟩ := hvw3.slice
 have HVw3 := hid hvw3
 have HB3 := hid (zAA HB2.out hbw3)
 have HBXw3 := hid hbw3
 clear hvw3 hbw3
 go_wp2
 refine ⟨fun _ => HS.out _ HB3.out, ?_⟩
 refine AnyT.tD (i := 15) (v := .slice aw1 nw1 cw1) rfl rfl (by rintro w' ⟨y1, y2, y3, y4, y5, y6⟩; go_simp) (HS.out _ HB3.out) ?_; go_frame
 refine AnyT.tD (i := 16) (v := .slice aw2 nw2 cw2) rfl rfl (by rintro w' ⟨y1, y2, y3, y4, y5, y6⟩; go_simp) (HS.out _ HB3.out) ?_; go_frame
 refine AnyT.tD (i := 17) (v := .slice aw3 nw3 cw3) rfl rfl (by rintro w' ⟨y1, y2, y3, y4, y5, y6⟩; go_simp) (HS.out _ HB3.out) ?_; go_frame
 refine AnyT.done (by kernel_rfl) ?_ _
 have HNE := hid ((HVw1.out.below HBXw2.out).below HBXw3.out)
 have HMD := hid (((HVw2.out.below HBXw3.out)).le (show K + L <= L + K by omega))
 have HDE := hid HVw3.out
 obtain ⟨y1, y2, y3, y4, y5, y6⟩ := HS.out _ HB3.out
 clear HVw1 HVw2 HVw3 HBXw2 HBXw1 HBXw3 HB1 HB2 hbd
 have HB := hid HB3.out
 clear HB3 y1 y2 y3 y4 y5 y6
 by_cases hst : s = t
 ·subst hst
  have HQ := hid (show zFS (s, N, D) (s, M, E) = (s, N * E + M * D, D * E) from if_pos rfl)
  have hsb : (s == s) = true := by simp
  obtain ⟨y1, y2, y3, y4, y5, y6⟩ := HS.out _ HB.out
  go_wp2
  refine zAG (fun j' X => decide (j' <= 6) = true -> X.cell? ⟨s0, 0, none⟩ = some (.bool s)) (by kernel_rfl) ?_
  obtain ⟨wq, hwq⟩ := exq (w3.drew)
  have hbq : Below wa.heap.size wa wq := by rw [hwq]; exact HB.out.drew
  have hb0 : Below w3.heap.size w3 wq := by rw [hwq]; exact (Below.refl _ _).drew
  rw [<- hwq]
  clear hwq
  refine AnyT.tD (i := 0) (v := .pointer (some ⟨s0, 0, none⟩)) rfl rfl (by rintro w' y1; go_simp) ((HS.out _ hbq).1) ?_; go_frame
  refine AnyT.tD (i := 1) (v := .bool s) rfl rfl (by rintro w' y1; go_simp) ((HS.out _ hbq).1) ?_; go_frame
  refine AnyT.tD (i := 2) (v := .slice aw1 nw1 cw1) rfl rfl (by rintro w' y1; go_simp) ((HS.out _ hbq).1) ?_; go_frame
  refine AnyT.tD (i := 3) (v := .slice aw2 nw2 cw2) rfl rfl (by rintro w' y1; go_simp) ((HS.out _ hbq).1) ?_; go_frame
  refine AnyT.tD (i := 5) (v := .slice aw3 nw3 cw3) rfl rfl (by rintro w' y1; go_simp) ((HS.out _ hbq).1) ?_; go_frame
  refine AnyT.nx (i := 4) rfl ?_
  go_wp2_with (go_at_call 76; refine (plus_c _ _ _ (L + K) (L + K) _ _ (HNE.out.below hb0) (HMD.out.below hb0) (by omega) (by omega)).mono ?_; rintro e w5 ⟨v5, rfl, hv5, hb5⟩; refine Stop.of ?_)
  refine Stop.go ?_
  obtain ⟨a5, n5, c5, rfl⟩ := hv5.slice
  have HV5 := hid hv5
  have HB5 := hid (zAA hbq hb5)
  have HDE5 := hid ((HDE.out.below hb0).below hb5)
  obtain ⟨x0, x1, x2, hfz, hlt⟩ := HR.out _ HB5.out
  have f0 := hfz 0
  have f1 := hfz 1
  have f2 := hfz 2
  have HFI := hid (HFIN.out _ HB5.out (.bool s) (.slice a5 n5 c5) (.slice aw3 nw3 cw3))
  have HKN := hid (hv5.keeps3 (g := s0 + 2) (u := .bool s) (v := .slice a5 n5 c5) (z := .slice aw3 nw3 cw3) (HNG.out _ HB5.out))
  have HKD := hid (HDE5.out.keeps3 (g := s0 + 2) (u := .bool s) (v := .slice a5 n5 c5) (z := .slice aw3 nw3 cw3) (HNG.out _ HB5.out))
  clear hv5 hb5 hfz hb0
  go_wp2
  refine ⟨fun _ => (HS.out _ HB5.out).1, ?_⟩
  refine AnyT.tD (i := 6) (v := .agg #[.bool s, .slice a5 n5 c5, .slice aw3 nw3 cw3]) rfl rfl (by rintro w' y1; go_simp) ((HS.out _ HB5.out).1) ?_; go_frame
  refine AnyT.nx (i := 7) rfl ?_
  go_wp2
  refine ⟨fun h => absurd h (by decide), ?_⟩
  refine AnyT.done (by kernel_rfl) ?_ _
  go_wp2
  refine bodyPost_ret (v := .agg #[.bool s, .slice a5 n5 c5, .slice aw3 nw3 cw3]) ?_ rfl ⟨_, rfl, ?_, HFI.out⟩
  ·simp [results, Tryz.results24, go_sem, x0, x1, x2, f0, f1, f2, hlt]
  ·rw [HQ.out]; exact ⟨_, _, _, _, _, _, rfl, HKN.out.le (by omega), HKD.out.le (by omega)⟩
 ·have hsb : (s == t) = false := by simpa using hst
  have HOR := hid (order_c w3 _ _ (L + K) (L + K) _ _ HNE.out HMD.out (by omega) (by omega))
  obtain ⟨y1, y2, y3, y4, y5, y6⟩ := HS.out _ HB.out
  obtain ⟨cv, hcv⟩ := exq (cmpI (N * E) (M * D))
  rw [<- hcv] at HOR
  have hge : 0 <= cv ↔ M * D <= N * E := by rw [hcv]; exact cmpI_ge
  have HGE := hid hge
  have HST := hid hst
  clear hcv hge hst
  go_wp2_with (go_at_call 77; refine HOR.out.mono ?_; rintro e w4 ⟨rfl, hb4⟩; refine Stop.of ?_)
  refine Stop.go ?_
  have HNE4 := hid (HNE.out.below hb4)
  have HMD4 := hid (HMD.out.below hb4)
  have HDE4 := hid (HDE.out.below hb4)
  have HB4 := hid (zAA HB.out hb4)
  clear HNE HMD HDE HB HOR hb4
  have HB := HB4
  have HDE := HDE4
  clear HB4 HDE4
  obtain ⟨y1, y2, y3, y4, y5, y6⟩ := HS.out _ HB.out
  by_cases hcc : 0 <= cv
  ·have hle := HGE.out.1 hcc
   have HQ := hid (show zFS (s, N, D) (t, M, E) = (s, N * E - M * D, D * E) from by unfold zFS; rw [if_neg HST.out, if_pos hle])
   have HLE := hid hle
   clear hle
   go_wp2
   refine zAG (fun j' X => decide (j' <= 6) = true -> X.cell? ⟨s0, 0, none⟩ = some (.bool s)) (by kernel_rfl) ?_
   obtain ⟨wq, hwq⟩ := exq (w4.drew)
   have hbq : Below wa.heap.size wa wq := by rw [hwq]; exact HB.out.drew
   have hb0 : Below w4.heap.size w4 wq := by rw [hwq]; exact (Below.refl _ _).drew
   rw [<- hwq]
   clear hwq
   refine AnyT.tD (i := 0) (v := .pointer (some ⟨s0, 0, none⟩)) rfl rfl (by rintro w' y1; go_simp) ((HS.out _ hbq).1) ?_; go_frame
   refine AnyT.tD (i := 1) (v := .bool s) rfl rfl (by rintro w' y1; go_simp) ((HS.out _ hbq).1) ?_; go_frame
   refine AnyT.tD (i := 2) (v := .slice aw1 nw1 cw1) rfl rfl (by rintro w' y1; go_simp) ((HS.out _ hbq).1) ?_; go_frame
   refine AnyT.tD (i := 3) (v := .slice aw2 nw2 cw2) rfl rfl (by rintro w' y1; go_simp) ((HS.out _ hbq).1) ?_; go_frame
   refine AnyT.tD (i := 5) (v := .slice aw3 nw3 cw3) rfl rfl (by rintro w' y1; go_simp) ((HS.out _ hbq).1) ?_; go_frame
   refine AnyT.nx (i := 4) rfl ?_
   go_wp2_with (go_at_call 78; refine (minus_c _ _ _ (L + K) (L + K) _ _ (HNE4.out.below hb0) (HMD4.out.below hb0) (by omega) (by omega) HLE.out).mono ?_; rintro e w5 ⟨v5, rfl, hv5, hb5⟩; refine Stop.of ?_)
   refine Stop.go ?_
   obtain ⟨a5, n5, c5, rfl⟩ := hv5.slice
   have HV5 := hid hv5
   have HB5 := hid (zAA hbq hb5)
   have HDE5 := hid ((HDE.out.below hb0).below hb5)
   obtain ⟨x0, x1, x2, hfz, hlt⟩ := HR.out _ HB5.out
   have f0 := hfz 0
   have f1 := hfz 1
   have f2 := hfz 2
   have HFI := hid (HFIN.out _ HB5.out (.bool s) (.slice a5 n5 c5) (.slice aw3 nw3 cw3))
   have HKN := hid (hv5.keeps3 (g := s0 + 2) (u := .bool s) (v := .slice a5 n5 c5) (z := .slice aw3 nw3 cw3) (HNG.out _ HB5.out))
   have HKD := hid (HDE5.out.keeps3 (g := s0 + 2) (u := .bool s) (v := .slice a5 n5 c5) (z := .slice aw3 nw3 cw3) (HNG.out _ HB5.out))
   clear hv5 hb5 hfz hb0
   go_wp2
   refine ⟨fun _ => (HS.out _ HB5.out).1, ?_⟩
   refine AnyT.tD (i := 6) (v := .agg #[.bool s, .slice a5 n5 c5, .slice aw3 nw3 cw3]) rfl rfl (by rintro w' y1; go_simp) ((HS.out _ HB5.out).1) ?_; go_frame
   refine AnyT.nx (i := 7) rfl ?_
   go_wp2
   refine ⟨fun h => absurd h (by decide), ?_⟩
   refine AnyT.done (by kernel_rfl) ?_ _
   go_wp2
   refine bodyPost_ret (v := .agg #[.bool s, .slice a5 n5 c5, .slice aw3 nw3 cw3]) ?_ rfl ⟨_, rfl, ?_, HFI.out⟩
   ·simp [results, Tryz.results24, go_sem, x0, x1, x2, f0, f1, f2, hlt]
   ·rw [HQ.out]; exact ⟨_, _, _, _, _, _, rfl, HKN.out.le (by omega), HKD.out.le (by omega)⟩
  ·have hle : ¬ M * D <= N * E := fun h => hcc (HGE.out.2 h)
   have HQ := hid (show zFS (s, N, D) (t, M, E) = (t, M * D - N * E, D * E) from by unfold zFS; rw [if_neg HST.out, if_neg hle])
   have HLE := hid hle
   clear hle
   go_wp2
   refine zAG (fun j' X => decide (j' <= 6) = true -> X.cell? ⟨s0 + 1, 0, none⟩ = some (.bool t)) (by kernel_rfl) ?_
   obtain ⟨wq, hwq⟩ := exq (w4.drew)
   have hbq : Below wa.heap.size wa wq := by rw [hwq]; exact HB.out.drew
   have hb0 : Below w4.heap.size w4 wq := by rw [hwq]; exact (Below.refl _ _).drew
   rw [<- hwq]
   clear hwq
   refine AnyT.tD (i := 0) (v := .pointer (some ⟨s0 + 1, 0, none⟩)) rfl rfl (by rintro w' y1; go_simp) ((HS.out _ hbq).2.2.2.1) ?_; go_frame
   refine AnyT.tD (i := 1) (v := .bool t) rfl rfl (by rintro w' y1; go_simp) ((HS.out _ hbq).2.2.2.1) ?_; go_frame
   refine AnyT.tD (i := 2) (v := .slice aw2 nw2 cw2) rfl rfl (by rintro w' y1; go_simp) ((HS.out _ hbq).2.2.2.1) ?_; go_frame
   refine AnyT.tD (i := 3) (v := .slice aw1 nw1 cw1) rfl rfl (by rintro w' y1; go_simp) ((HS.out _ hbq).2.2.2.1) ?_; go_frame
   refine AnyT.tD (i := 5) (v := .slice aw3 nw3 cw3) rfl rfl (by rintro w' y1; go_simp) ((HS.out _ hbq).2.2.2.1) ?_; go_frame
   refine AnyT.nx (i := 4) rfl ?_
   go_wp2_with (go_at_call 78; refine (minus_c _ _ _ (L + K) (L + K) _ _ (HMD4.out.below hb0) (HNE4.out.below hb0) (by omega) (by omega) (by have := HLE.out; omega)).mono ?_; rintro e w5 ⟨v5, rfl, hv5, hb5⟩; refine Stop.of ?_)
   refine Stop.go ?_
   obtain ⟨a5, n5, c5, rfl⟩ := hv5.slice
   have HV5 := hid hv5
   have HB5 := hid (zAA hbq hb5)
   have HDE5 := hid ((HDE.out.below hb0).below hb5)
   obtain ⟨x0, x1, x2, hfz, hlt⟩ := HR.out _ HB5.out
   have f0 := hfz 0
   have f1 := hfz 1
   have f2 := hfz 2
   have HFI := hid (HFIN.out _ HB5.out (.bool t) (.slice a5 n5 c5) (.slice aw3 nw3 cw3))
   have HKN := hid (hv5.keeps3 (g := s0 + 2) (u := .bool t) (v := .slice a5 n5 c5) (z := .slice aw3 nw3 cw3) (HNG.out _ HB5.out))
   have HKD := hid (HDE5.out.keeps3 (g := s0 + 2) (u := .bool t) (v := .slice a5 n5 c5) (z := .slice aw3 nw3 cw3) (HNG.out _ HB5.out))
   clear hv5 hb5 hfz hb0
   go_wp2
   refine ⟨fun _ => (HS.out _ HB5.out).2.2.2.1, ?_⟩
   refine AnyT.tD (i := 6) (v := .agg #[.bool t, .slice a5 n5 c5, .slice aw3 nw3 cw3]) rfl rfl (by rintro w' y1; go_simp) ((HS.out _ HB5.out).2.2.2.1) ?_; go_frame
   refine AnyT.nx (i := 7) rfl ?_
   go_wp2
   refine ⟨fun h => absurd h (by decide), ?_⟩
   refine AnyT.done (by kernel_rfl) ?_ _
   go_wp2
   refine bodyPost_ret (v := .agg #[.bool t, .slice a5 n5 c5, .slice aw3 nw3 cw3]) ?_ rfl ⟨_, rfl, ?_, HFI.out⟩
   ·simp [results, Tryz.results24, go_sem, x0, x1, x2, f0, f1, f2, hlt]
   ·rw [HQ.out]; exact ⟨_, _, _, _, _, _, rfl, HKN.out.le (by omega), HKD.out.le (by omega)⟩
end
section
open Go.RowKit
theorem exact_c (w : World) (N D : Int) (hN : -4611686018427387904 <= N ∧ N <= 4611686018427387904) (hD : 0 <= D ∧ D <= 4611686018427387904) :
 Calls Tryz.prog 22 #[.agg #[.int .i64 N, .int .i64 D]] w fun e w' => ∃ x, e = .returned x ∧ RatQ w' x 3 (decide (N < 0)) (N.natAbs : Nat) D ∧ Below w.heap.size w w' := by
 obtain ⟨s0, hs⟩ := exq (w.heap.size)
 obtain ⟨wa, hwa⟩ := exq ((w.alloc (.cells #[.int .i64 N, .int .i64 D] 29)).alloc (.cells #[.bool false, .slice none 0 0, .slice none 0 0] 37))
 have hba : Below w.heap.size w wa := by rw [hwa]; exact ((Below.refl _ _).alloc (Nat.le_refl _) _).alloc (by simp) _
 have q0 : wa.heap[s0 + 1]? = some (.cells #[.bool false, .slice none 0 0, .slice none 0 0] 37 (0, 0)) := by
  have := World.alloc_heap_new (w.alloc (.cells #[.int .i64 N, .int .i64 D] 29)) (.cells #[.bool false, .slice none 0 0, .slice none 0 0] 37)
  rw [hwa, hs]
  simpa using this
 have hs1 : s0 + 1 < wa.heap.size := (Array.getElem?_eq_some_iff.1 q0).1
 have hc : ∀ o v, (#[Value.int .i64 N, .int .i64 D] : Array Value)[o]? = some v -> wa.cell? ⟨s0, o, none⟩ = some v := fun o v h => by
  rw [hwa, hs, World.cell?_alloc_past _ _ _ (by simp), World.cell?_alloc_at _ _ _ _ rfl]; exact h
 have HS := hid (fun (Y : World) (hY : Below wa.heap.size wa Y) => show Y.cell? ⟨s0, 0, none⟩ = some (.int .i64 N) ∧ Y.cell? ⟨s0, 1, none⟩ = some (.int .i64 D) from by
  have k0 : ∀ o, Y.cell? ⟨s0, o, none⟩ = wa.cell? ⟨s0, o, none⟩ := fun o => hY.cell (p := ⟨s0, o, none⟩) (by show s0 < _; omega)
  exact ⟨(k0 0).trans (hc 0 _ rfl), (k0 1).trans (hc 1 _ rfl)⟩)
 have HR := hid (fun (Y : World) (hY : Below wa.heap.size wa Y) => show Y.cell? ⟨s0 + 1, 0, none⟩ = some (.bool false) ∧ Y.cell? ⟨s0 + 1, 1, none⟩ = some (.slice none 0 0) ∧ Y.cell? ⟨s0 + 1, 2, none⟩ = some (.slice none 0 0) ∧ (∀ o, Y.frozen? ⟨s0 + 1, o, none⟩ = false) ∧ s0 + 1 < Y.heap.size from by
  have h1 := (hY.block (s0 + 1) hs1).trans q0
  exact ⟨by simp [World.cell?, h1], by simp [World.cell?, h1], by simp [World.cell?, h1], fun o => by simp [World.frozen?, h1], (Array.getElem?_eq_some_iff.1 h1).1⟩)
 have HFIN := hid (fun (Y : World) (hY : Below wa.heap.size wa Y) (x y z : Value) => show Below w.heap.size w (((Y.setCell ⟨s0 + 1, 0, none⟩ x).setCell ⟨s0 + 1, 1, none⟩ y).setCell ⟨s0 + 1, 2, none⟩ z) from
  zAD (zAD (zAD (zAA hba hY) (by omega) 0 x) (by omega) 1 y) (by omega) 2 z)
 have HNG := hid (fun (Y : World) (hY : Below wa.heap.size wa Y) => show ∃ c, Y.heap[s0 + 1]? = some (.cells c 37 (0, 0)) ∧ ∀ x : Int, ∀ o : Nat, c[o]? ≠ some (.int .i64 x) from
  ⟨_, (hY.block (s0 + 1) hs1).trans q0, fun x o => by match o with | 0 => simp | 1 => simp | 2 => simp | o + 3 => simp⟩)
 obtain ⟨b, hb⟩ := exq (decide (N < 0))
 obtain ⟨m, hm⟩ : ∃ m : Int, m = (N.natAbs : Nat) := ⟨_, rfl⟩
 rw [<- hb, <- hm]
 have hb2 := hb.symm
 have HM1 := hid (fun X => natOf_c X m (by omega) (by omega))
 have HM2 := hid (fun X => natOf_c X D hD.1 (by omega))
 have hng : IntKind.i64.wrap (-N) = -N := IntWalk.i64_in _ (by omega)
 have hmx : (if -N <= N then N else -N) = m := by split <;> omega
 have hmx2 : (if N <= -N then -N else N) = m := by split <;> omega
 have hmx3 : (if N < -N then -N else N) = m := by split <;> omega
 clear hba q0 hs1 hc hb hm
 go_enter Tryz.func22, Tryz.ntmps22
 go_wp2_with fail
 rw [<- hs, <- hwa]
 clear hs hwa
 refine zAG (fun j' X => decide (j' <= 13) = true -> X.cell? ⟨s0, 0, none⟩ = some (.int .i64 N) ∧ X.cell? ⟨s0, 1, none⟩ = some (.int .i64 D)) (by kernel_rfl) ?_
 have hbd : Below wa.heap.size wa wa.drew := (Below.refl _ _).drew
 generalize wa.drew = wd at hbd ⊢
 refine AnyT.tD (i := 0) (v := .pointer (some ⟨s0, 0, none⟩)) rfl rfl (by rintro w' ⟨y1, y2⟩; go_simp) (HS.out _ hbd) ?_; go_frame
 refine AnyT.tD (i := 1) (v := .int .i64 N) rfl rfl (by rintro w' ⟨y1, y2⟩; go_simp) (HS.out _ hbd) ?_; go_frame
 refine AnyT.tD (i := 2) (v := .bool b) rfl rfl (by rintro w' ⟨y1, y2⟩; go_simp) (HS.out _ hbd) ?_; go_frame
 refine AnyT.tD (i := 3) (v := .pointer (some ⟨s0, 0, none⟩)) rfl rfl (by rintro w' ⟨y1, y2⟩; go_simp) (HS.out _ hbd) ?_; go_frame
 refine AnyT.tD (i := 4) (v := .int .i64 N) rfl rfl (by rintro w' ⟨y1, y2⟩; go_simp) (HS.out _ hbd) ?_; go_frame
 refine AnyT.tD (i := 5) (v := .pointer (some ⟨s0, 0, none⟩)) rfl rfl (by rintro w' ⟨y1, y2⟩; go_simp) (HS.out _ hbd) ?_; go_frame
 refine AnyT.tD (i := 6) (v := .int .i64 N) rfl rfl (by rintro w' ⟨y1, y2⟩; go_simp) (HS.out _ hbd) ?_; go_frame
 refine AnyT.tD (i := 7) (v := .int .i64 (-N)) rfl rfl (by rintro w' ⟨y1, y2⟩; go_simp) (HS.out _ hbd) ?_; go_frame
 refine AnyT.tD (i := 10) (v := .pointer (some ⟨s0, 1, none⟩)) rfl rfl (by rintro w' ⟨y1, y2⟩; go_simp) (HS.out _ hbd) ?_; go_frame
 refine AnyT.tD (i := 11) (v := .int .i64 D) rfl rfl (by rintro w' ⟨y1, y2⟩; go_simp) (HS.out _ hbd) ?_; go_frame
 refine AnyT.nx (i := 8) rfl ?_
 go_wp2
 refine ⟨fun _ => HS.out _ hbd, ?_⟩
 refine AnyT.nx (i := 9) rfl ?_
 go_wp2_with (go_at_call 74; refine (HM1.out _).mono ?_; rintro e w1 ⟨v1, rfl, hv1, hb1⟩; refine Stop.of ?_)
 refine Stop.go ?_
 obtain ⟨a1, n1, c1, rfl⟩ := hv1.slice
 have HV1 := hid hv1
 have HB1 := hid (zAA hbd hb1)
 clear hv1 hb1 hmx hmx2 hmx3 hng
 go_wp2
 refine ⟨fun _ => HS.out _ HB1.out, ?_⟩
 refine AnyT.nx (i := 12) rfl ?_
 go_wp2_with (go_at_call 74; refine (HM2.out _).mono ?_; rintro e w2 ⟨v2, rfl, hv2, hb2'⟩; refine Stop.of ?_)
 refine Stop.go ?_
 obtain ⟨a2, n2, c2, rfl⟩ := hv2.slice
 have HB2 := hid (zAA HB1.out hb2')
 have hv1' := HV1.out.below hb2'
 have HK1 := hid (hv1'.keeps3 (g := s0 + 1) (u := .bool b) (v := .slice a1 n1 c1) (z := .slice a2 n2 c2) (HNG.out _ HB2.out))
 have HK2 := hid (hv2.keeps3 (g := s0 + 1) (u := .bool b) (v := .slice a1 n1 c1) (z := .slice a2 n2 c2) (HNG.out _ HB2.out))
 obtain ⟨x0, x1, x2, hfz, hlt⟩ := HR.out _ HB2.out
 have f0 := hfz 0
 have f1 := hfz 1
 have f2 := hfz 2
 have HFI := hid (HFIN.out _ HB2.out (.bool b) (.slice a1 n1 c1) (.slice a2 n2 c2))
 clear hv1' hv2 hb2' hfz HV1
 go_wp2
 refine ⟨fun _ => HS.out _ HB2.out, ?_⟩
 refine AnyT.tD (i := 13) (v := .agg #[.bool b, .slice a1 n1 c1, .slice a2 n2 c2]) rfl rfl (by rintro w' ⟨y1, y2⟩; go_simp) (HS.out _ HB2.out) ?_; go_frame
 refine AnyT.nx (i := 14) rfl ?_
 go_wp2
 refine ⟨fun h => absurd h (by decide), ?_⟩
 refine AnyT.done (by kernel_rfl) ?_ _
 go_wp2
 refine bodyPost_ret (v := .agg #[.bool b, .slice a1 n1 c1, .slice a2 n2 c2]) ?_ rfl ⟨_, rfl, ⟨_, _, _, _, _, _, rfl, HK1.out, HK2.out⟩, HFI.out⟩
 simp [results, Tryz.results22, go_sem, x0, x1, x2, f0, f1, f2, hlt]
theorem nwhole_c (w : World) (n : Int) (hN : -4611686018427387904 <= n ∧ n <= 4611686018427387904) :
 Calls Tryz.prog 91 #[.int .i64 n] w fun e w' => ∃ x, e = .returned x ∧ RatQ w' x 3 (decide (n < 0)) (n.natAbs : Nat) 1 ∧ Below w.heap.size w w' := by
 obtain ⟨s0, hs⟩ := exq (w.heap.size)
 obtain ⟨wa, hwa⟩ := exq (w.alloc (.cells #[.bool false, .slice none 0 0, .slice none 0 0] 37))
 have hba : Below w.heap.size w wa := by rw [hwa]; exact (Below.refl _ _).alloc (Nat.le_refl _) _
 have q0 : wa.heap[s0]? = some (.cells #[.bool false, .slice none 0 0, .slice none 0 0] 37 (0, 0)) := by
  rw [hwa, hs]; exact World.alloc_heap_new w _
 have hs1 : s0 < wa.heap.size := (Array.getElem?_eq_some_iff.1 q0).1
 have HR := hid (fun (Y : World) (hY : Below wa.heap.size wa Y) => show Y.cell? ⟨s0, 0, none⟩ = some (.bool false) ∧ Y.cell? ⟨s0, 1, none⟩ = some (.slice none 0 0) ∧ Y.cell? ⟨s0, 2, none⟩ = some (.slice none 0 0) ∧ (∀ o, Y.frozen? ⟨s0, o, none⟩ = false) ∧ s0 < Y.heap.size from by
  have h1 := (hY.block s0 hs1).trans q0
  exact ⟨by simp [World.cell?, h1], by simp [World.cell?, h1], by simp [World.cell?, h1], fun o => by simp [World.frozen?, h1], (Array.getElem?_eq_some_iff.1 h1).1⟩)
 have HFIN := hid (fun (Y : World) (hY : Below wa.heap.size wa Y) (x y z : Value) => show Below w.heap.size w (((Y.setCell ⟨s0, 0, none⟩ x).setCell ⟨s0, 1, none⟩ y).setCell ⟨s0, 2, none⟩ z) from
  zAD (zAD (zAD (zAA hba hY) (by omega) 0 x) (by omega) 1 y) (by omega) 2 z)
 have HNG := hid (fun (Y : World) (hY : Below wa.heap.size wa Y) => show ∃ c, Y.heap[s0]? = some (.cells c 37 (0, 0)) ∧ ∀ x : Int, ∀ o : Nat, c[o]? ≠ some (.int .i64 x) from
  ⟨_, (hY.block s0 hs1).trans q0, fun x o => by match o with | 0 => simp | 1 => simp | 2 => simp | o + 3 => simp⟩)
 have HE := hid (exact_c wa n 1 hN (by decide))
 obtain ⟨b, hb⟩ := exq (decide (n < 0))
 obtain ⟨m, hm⟩ : ∃ m : Int, m = (n.natAbs : Nat) := ⟨_, rfl⟩
 rw [<- hb, <- hm] at HE ⊢
 clear hba q0 hs1 hb hm
 go_enter Tryz.func91, Tryz.ntmps91
 go_wp2_with fail
 rw [<- hs, <- hwa]
 clear hs hwa
 go_wp2_with (go_at_call 22; refine HE.out.mono ?_; rintro e w2 ⟨v2, rfl, ⟨a1, n1, c1, a2, n2, c2, rfl, hv1, hv2⟩, hb2⟩; refine Stop.of ?_)
 refine Stop.go ?_
 have HK1 := hid (hv1.keeps3 (g := s0) (u := .bool b) (v := .slice a1 n1 c1) (z := .slice a2 n2 c2) (HNG.out _ hb2))
 have HK2 := hid (hv2.keeps3 (g := s0) (u := .bool b) (v := .slice a1 n1 c1) (z := .slice a2 n2 c2) (HNG.out _ hb2))
 obtain ⟨x0, x1, x2, hfz, hlt⟩ := HR.out _ hb2
 have f0 := hfz 0
 have f1 := hfz 1
 have f2 := hfz 2
 have HFI := hid (HFIN.out _ hb2 (.bool b) (.slice a1 n1 c1) (.slice a2 n2 c2))
 clear hv1 hv2 hb2 hfz
 go_wp2
 refine bodyPost_ret (v := .agg #[.bool b, .slice a1 n1 c1, .slice a2 n2 c2]) ?_ rfl ⟨_, rfl, ⟨_, _, _, _, _, _, rfl, HK1.out, HK2.out⟩, HFI.out⟩
 simp [results, Tryz.results91, go_sem, x0, x1, x2, f0, f1, f2, hlt]
end
section
open Go.RowKit
theorem rtimes_c (w : World) (k : Int) (v : Value) (L : Nat) (s : Bool) (N D : Int) (hk : -4611686018427387904 <= k ∧ k <= 4611686018427387904) (h : RatQ w v L s N D) (hL : L <= 100) :
 Calls Tryz.prog 23 #[.int .i64 k, v] w fun e w' => ∃ x, e = .returned x ∧ RatQ w' x (3 + L) (s != decide (k < 0)) ((k.natAbs : Nat) * N) D ∧ Below w.heap.size w w' := by
 obtain ⟨na, nn, nc, da, dn, dc, rfl, hN, hD⟩ := h
 obtain ⟨s0, hs⟩ := exq (w.heap.size)
 obtain ⟨wa, hwa⟩ := exq ((w.alloc (.cells #[.bool s, .slice na nn nc, .slice da dn dc] 37)).alloc (.cells #[.bool false, .slice none 0 0, .slice none 0 0] 37))
 have hba : Below w.heap.size w wa := by rw [hwa]; exact ((Below.refl _ _).alloc (Nat.le_refl _) _).alloc (by simp) _
 have q0 : wa.heap[s0 + 1]? = some (.cells #[.bool false, .slice none 0 0, .slice none 0 0] 37 (0, 0)) := by
  have := World.alloc_heap_new (w.alloc (.cells #[.bool s, .slice na nn nc, .slice da dn dc] 37)) (.cells #[.bool false, .slice none 0 0, .slice none 0 0] 37)
  rw [hwa, hs]
  simpa using this
 have hs1 : s0 + 1 < wa.heap.size := (Array.getElem?_eq_some_iff.1 q0).1
 have hc : ∀ o v, (#[Value.bool s, .slice na nn nc, .slice da dn dc] : Array Value)[o]? = some v -> wa.cell? ⟨s0, o, none⟩ = some v := fun o v h => by
  rw [hwa, hs, World.cell?_alloc_past _ _ _ (by simp), World.cell?_alloc_at _ _ _ _ rfl]; exact h
 have HS := hid (fun (Y : World) (hY : Below wa.heap.size wa Y) => show Y.cell? ⟨s0, 0, none⟩ = some (.bool s) ∧ Y.cell? ⟨s0, 1, none⟩ = some (.slice na nn nc) ∧ Y.cell? ⟨s0, 2, none⟩ = some (.slice da dn dc) from by
  have k0 : ∀ o, Y.cell? ⟨s0, o, none⟩ = wa.cell? ⟨s0, o, none⟩ := fun o => hY.cell (p := ⟨s0, o, none⟩) (by show s0 < _; omega)
  exact ⟨(k0 0).trans (hc 0 _ rfl), (k0 1).trans (hc 1 _ rfl), (k0 2).trans (hc 2 _ rfl)⟩)
 have HR := hid (fun (Y : World) (hY : Below wa.heap.size wa Y) => show Y.cell? ⟨s0 + 1, 0, none⟩ = some (.bool false) ∧ Y.cell? ⟨s0 + 1, 1, none⟩ = some (.slice none 0 0) ∧ Y.cell? ⟨s0 + 1, 2, none⟩ = some (.slice none 0 0) ∧ (∀ o, Y.frozen? ⟨s0 + 1, o, none⟩ = false) ∧ s0 + 1 < Y.heap.size from by
  have h1 := (hY.block (s0 + 1) hs1).trans q0
  exact ⟨by simp [World.cell?, h1], by simp [World.cell?, h1], by simp [World.cell?, h1], fun o => by simp [World.frozen?, h1], (Array.getElem?_eq_some_iff.1 h1).1⟩)
 have HFIN := hid (fun (Y : World) (hY : Below wa.heap.size wa Y) (x y z : Value) => show Below w.heap.size w (((Y.setCell ⟨s0 + 1, 0, none⟩ x).setCell ⟨s0 + 1, 1, none⟩ y).setCell ⟨s0 + 1, 2, none⟩ z) from
  zAD (zAD (zAD (zAA hba hY) (by omega) 0 x) (by omega) 1 y) (by omega) 2 z)
 have HNG := hid (fun (Y : World) (hY : Below wa.heap.size wa Y) => show ∃ c, Y.heap[s0 + 1]? = some (.cells c 37 (0, 0)) ∧ ∀ x : Int, ∀ o : Nat, c[o]? ≠ some (.int .i64 x) from
  ⟨_, (hY.block (s0 + 1) hs1).trans q0, fun x o => by match o with | 0 => simp | 1 => simp | 2 => simp | o + 3 => simp⟩)
 have HNN := hid (fun (Y : World) (hY : Below wa.heap.size wa Y) => And.intro (hN.below (zAA hba hY)) (hD.below (zAA hba hY)))
 obtain ⟨b, hb⟩ := exq (decide (k < 0))
 obtain ⟨m, hm⟩ : ∃ m : Int, m = (k.natAbs : Nat) := ⟨_, rfl⟩
 rw [<- hb, <- hm]
 have hb2 := hb.symm
 have HM1 := hid (fun X => natOf_c X m (by omega) (by omega))
 have hng : IntKind.i64.wrap (-k) = -k := IntWalk.i64_in _ (by omega)
 have hmx : (if -k <= k then k else -k) = m := by split <;> omega
 have hmx2 : (if k <= -k then -k else k) = m := by split <;> omega
 have hmx3 : (if k < -k then -k else k) = m := by split <;> omega
 clear hba q0 hs1 hc hb hm hN hD
 go_enter Tryz.func23, Tryz.ntmps23
 go_wp2_with fail
 rw [<- hs, <- hwa]
 clear hs hwa
 refine zAG (fun j' X => decide (j' <= 15) = true -> X.cell? ⟨s0, 0, none⟩ = some (.bool s) ∧ X.cell? ⟨s0, 1, none⟩ = some (.slice na nn nc) ∧ X.cell? ⟨s0, 2, none⟩ = some (.slice da dn dc)) (by kernel_rfl) ?_
 have hbd : Below wa.heap.size wa wa.drew := (Below.refl _ _).drew
 generalize wa.drew = wd at hbd ⊢
 refine AnyT.tD (i := 0) (v := .pointer (some ⟨s0, 0, none⟩)) rfl rfl (by rintro w' ⟨y1, y2, y3⟩; go_simp) (HS.out _ hbd) ?_; go_frame
 refine AnyT.tD (i := 1) (v := .bool s) rfl rfl (by rintro w' ⟨y1, y2, y3⟩; go_simp) (HS.out _ hbd) ?_; go_frame
 refine AnyT.tD (i := 2) (v := .int .i64 k) rfl rfl (by rintro w' ⟨y1, y2, y3⟩; go_simp) (HS.out _ hbd) ?_; go_frame
 refine AnyT.tD (i := 3) (v := .bool b) rfl rfl (by rintro w' ⟨y1, y2, y3⟩; go_simp) (HS.out _ hbd) ?_; go_frame
 refine AnyT.tD (i := 4) (v := .bool (!(s == b))) rfl rfl (by rintro w' ⟨y1, y2, y3⟩; go_simp) (HS.out _ hbd) ?_; go_frame
 refine AnyT.tD (i := 5) (v := .int .i64 k) rfl rfl (by rintro w' ⟨y1, y2, y3⟩; go_simp) (HS.out _ hbd) ?_; go_frame
 refine AnyT.tD (i := 6) (v := .int .i64 k) rfl rfl (by rintro w' ⟨y1, y2, y3⟩; go_simp) (HS.out _ hbd) ?_; go_frame
 refine AnyT.tD (i := 7) (v := .int .i64 (-k)) rfl rfl (by rintro w' ⟨y1, y2, y3⟩; go_simp) (HS.out _ hbd) ?_; go_frame
 refine AnyT.tD (i := 10) (v := .pointer (some ⟨s0, 1, none⟩)) rfl rfl (by rintro w' ⟨y1, y2, y3⟩; go_simp) (HS.out _ hbd) ?_; go_frame
 refine AnyT.tD (i := 11) (v := .slice na nn nc) rfl rfl (by rintro w' ⟨y1, y2, y3⟩; go_simp) (HS.out _ hbd) ?_; go_frame
 refine AnyT.tD (i := 13) (v := .pointer (some ⟨s0, 2, none⟩)) rfl rfl (by rintro w' ⟨y1, y2, y3⟩; go_simp) (HS.out _ hbd) ?_; go_frame
 refine AnyT.tD (i := 14) (v := .slice da dn dc) rfl rfl (by rintro w' ⟨y1, y2, y3⟩; go_simp) (HS.out _ hbd) ?_; go_frame
 refine AnyT.nx (i := 8) rfl ?_
 go_wp2
 refine ⟨fun _ => HS.out _ hbd, ?_⟩
 refine AnyT.nx (i := 9) rfl ?_
 go_wp2_with (go_at_call 74; refine (HM1.out _).mono ?_; rintro e w1 ⟨v1, rfl, hv1, hb1⟩; refine Stop.of ?_)
 refine Stop.go ?_
 obtain ⟨a1, n1, c1, rfl⟩ := hv1.slice
 have HV1 := hid hv1
 have HB1 := hid (zAA hbd hb1)
 clear hv1 hb1 hmx hmx2 hmx3 hng
 go_wp2
 refine ⟨fun _ => HS.out _ HB1.out, ?_⟩
 refine AnyT.nx (i := 12) rfl ?_
 go_wp2_with (go_at_call 75; refine (zKZ _ _ _ 3 L _ _ HV1.out (HNN.out _ HB1.out).1 (by omega) (by omega)).mono ?_; rintro e w2 ⟨v2, rfl, hv2, hb2'⟩; refine Stop.of ?_)
 refine Stop.go ?_
 obtain ⟨a2, n2, c2, rfl⟩ := hv2.slice
 have HB2 := hid (zAA HB1.out hb2')
 have hd2 := (HNN.out _ HB2.out).2
 have HK1 := hid (hv2.keeps3 (g := s0 + 1) (u := .bool (!(s == b))) (v := .slice a2 n2 c2) (z := .slice da dn dc) (HNG.out _ HB2.out))
 have HK2 := hid ((hd2.keeps3 (g := s0 + 1) (u := .bool (!(s == b))) (v := .slice a2 n2 c2) (z := .slice da dn dc) (HNG.out _ HB2.out)).le (show L <= 3 + L by omega))
 obtain ⟨x0, x1, x2, hfz, hlt⟩ := HR.out _ HB2.out
 have f0 := hfz 0
 have f1 := hfz 1
 have f2 := hfz 2
 have HFI := hid (HFIN.out _ HB2.out (.bool (!(s == b))) (.slice a2 n2 c2) (.slice da dn dc))
 clear hv2 hd2 hb2' hfz HV1
 go_wp2
 refine ⟨fun _ => HS.out _ HB2.out, ?_⟩
 refine AnyT.tD (i := 15) (v := .agg #[.bool (!(s == b)), .slice a2 n2 c2, .slice da dn dc]) rfl rfl (by rintro w' ⟨y1, y2, y3⟩; go_simp) (HS.out _ HB2.out) ?_; go_frame
 refine AnyT.nx (i := 16) rfl ?_
 go_wp2
 refine ⟨fun h => absurd h (by decide), ?_⟩
 refine AnyT.done (by kernel_rfl) ?_ _
 go_wp2
 refine bodyPost_ret (v := .agg #[.bool (!(s == b)), .slice a2 n2 c2, .slice da dn dc]) ?_ rfl ⟨_, rfl, ⟨_, _, _, _, _, _, rfl, HK1.out, HK2.out⟩, HFI.out⟩
 simp [results, Tryz.results23, go_sem, x0, x1, x2, f0, f1, f2, hlt]
end
section
open Go.RowKit
def sgn (s : Bool) (N : Int) : Int := if s = true then -N else N
theorem plusQ_val {s t : Bool} {N D M E : Int} : sgn (zFS (s, N, D) (t, M, E)).1 (zFS (s, N, D) (t, M, E)).2.1 = sgn s N * E + sgn t M * D := by
 unfold zFS sgn
 cases s <;> cases t <;> simp <;> (try split) <;> (try simp) <;> grind
theorem plusQ_den {s t : Bool} {N D M E : Int} : (zFS (s, N, D) (t, M, E)).2.2 = D * E := by
 unfold zFS
 simp only []
 split
 ·rfl
 ·split <;> rfl
theorem rat_new {Y : World} {g : Nat} (h : Y.heap[g]? = some (.cells #[.bool false, .slice none 0 0, .slice none 0 0] 37 (0, 0))) :
 Y.cell? ⟨g, 0, none⟩ = some (.bool false) ∧ Y.cell? ⟨g, 1, none⟩ = some (.slice none 0 0) ∧ Y.cell? ⟨g, 2, none⟩ = some (.slice none 0 0) ∧ Y.frozen? ⟨g, 0, none⟩ = false ∧ Y.frozen? ⟨g, 1, none⟩ = false ∧ Y.frozen? ⟨g, 2, none⟩ = false ∧ g < Y.heap.size :=
 ⟨by simp [World.cell?, h], by simp [World.cell?, h], by simp [World.cell?, h], by simp [World.frozen?, h], by simp [World.frozen?, h], by simp [World.frozen?, h], (Array.getElem?_eq_some_iff.1 h).1⟩
theorem zJQ {Y : World} {g : Nat} {c : Array Value} {T : TypeId} {fz : Nat × Nat} (h : Y.heap[g]? = some (.cells c T fz)) (o : Nat) (v : Value) : (Y.setCell ⟨g, o, none⟩ v).heap[g]? = some (.cells (c.setIfInBounds o v) T fz) := by
 obtain ⟨hlt, hk⟩ := Array.getElem?_eq_some_iff.1 h
 show (Y.heap.modify g _)[g]? = _
 rw [Array.getElem?_eq_getElem (by rw [Array.size_modify]; exact hlt), Array.getElem_modify_self, hk]
 rfl
theorem rat_set {wa Y : World} {g N : Nat} (h : Y.heap[g]? = some (.cells #[.bool false, .slice none 0 0, .slice none 0 0] 37 (0, 0))) (hg : N <= g) (hb : Below N wa Y) (u v z : Value) :
 (((Y.setCell ⟨g, 0, none⟩ u).setCell ⟨g, 1, none⟩ v).setCell ⟨g, 2, none⟩ z).cell? ⟨g, 0, none⟩ = some u ∧ (((Y.setCell ⟨g, 0, none⟩ u).setCell ⟨g, 1, none⟩ v).setCell ⟨g, 2, none⟩ z).cell? ⟨g, 1, none⟩ = some v ∧
 (((Y.setCell ⟨g, 0, none⟩ u).setCell ⟨g, 1, none⟩ v).setCell ⟨g, 2, none⟩ z).cell? ⟨g, 2, none⟩ = some z ∧ Below N wa (((Y.setCell ⟨g, 0, none⟩ u).setCell ⟨g, 1, none⟩ v).setCell ⟨g, 2, none⟩ z) := by
 have e : (((Y.setCell ⟨g, 0, none⟩ u).setCell ⟨g, 1, none⟩ v).setCell ⟨g, 2, none⟩ z).heap[g]? = some (.cells #[u, v, z] 37 (0, 0)) := by
  have h1 := zJQ h 0 u
  have h2 := zJQ h1 1 v
  have h3 := zJQ h2 2 z
  exact h3
 exact ⟨by simp [World.cell?, e], by simp [World.cell?, e], by simp [World.cell?, e], zAD (zAD (zAD hb hg 0 u) hg 1 v) hg 2 z⟩
def OrdMid (wa : World) (P1 : Bool) (P2 : Int) (fr fr' : Act) (W : World) : Prop :=
 ∃ g pa pn pc qa qn qc r6 r7 r8 r9, fr' = (((((fr.put (some 6) r6).put (some 7) r7).put (some 8) r8).put (some 9) r9).put (some 5) (.pointer (some ⟨g, 0, none⟩))) ∧
   W.cell? ⟨g, 0, none⟩ = some (.bool P1) ∧ W.cell? ⟨g, 1, none⟩ = some (.slice pa pn pc) ∧ W.cell? ⟨g, 2, none⟩ = some (.slice qa qn qc) ∧ (pn = 0 ↔ P2 = 0) ∧ 0 <= P2 ∧ Below wa.heap.size wa W
theorem rorder_c (w : World) (v u : Value) (L K : Nat) (s t : Bool) (N D M E : Int) (h : RatQ w v L s N D) (k : RatQ w u K t M E) (hL : L <= 100) (hK : K <= 97) :
 Calls Tryz.prog 21 #[v, u] w fun e w' => e = .returned (.int .i64 (cmpI (sgn s N * E) (sgn t M * D))) ∧ Below w.heap.size w w' := by
 obtain ⟨na, nn, nc, da, dn, dc, rfl, hN, hD⟩ := h
 obtain ⟨ma, mn, mc, ea, en, ec, rfl, hM, hE⟩ := k
 obtain ⟨s0, hs⟩ := exq (w.heap.size)
 obtain ⟨wa, hwa⟩ := exq ((w.alloc (.cells #[.bool s, .slice na nn nc, .slice da dn dc] 37)).alloc (.cells #[.bool t, .slice ma mn mc, .slice ea en ec] 37))
 have hba : Below w.heap.size w wa := by rw [hwa]; exact ((Below.refl _ _).alloc (Nat.le_refl _) _).alloc (by simp) _
 have hs1 : s0 + 1 < wa.heap.size := by rw [hwa, hs]; simp
 have hc : ∀ o v, (#[Value.bool s, .slice na nn nc, .slice da dn dc] : Array Value)[o]? = some v -> wa.cell? ⟨s0, o, none⟩ = some v := fun o v h => by
  rw [hwa, hs, World.cell?_alloc_past _ _ _ (by simp), World.cell?_alloc_at _ _ _ _ rfl]; exact h
 have hc2 : ∀ o v, (#[Value.bool t, .slice ma mn mc, .slice ea en ec] : Array Value)[o]? = some v -> wa.cell? ⟨s0 + 1, o, none⟩ = some v := fun o v h => by
  rw [hwa, hs, World.cell?_alloc_at _ _ _ _ (by simp)]; exact h
 have HS := hid (fun (Y : World) (hY : Below wa.heap.size wa Y) => show Y.cell? ⟨s0, 0, none⟩ = some (.bool s) ∧ Y.cell? ⟨s0, 1, none⟩ = some (.slice na nn nc) ∧ Y.cell? ⟨s0, 2, none⟩ = some (.slice da dn dc) ∧ Y.cell? ⟨s0 + 1, 0, none⟩ = some (.bool t) ∧ Y.cell? ⟨s0 + 1, 1, none⟩ = some (.slice ma mn mc) ∧ Y.cell? ⟨s0 + 1, 2, none⟩ = some (.slice ea en ec) from by
  have k0 : ∀ o, Y.cell? ⟨s0, o, none⟩ = wa.cell? ⟨s0, o, none⟩ := fun o => hY.cell (p := ⟨s0, o, none⟩) (by show s0 < _; omega)
  have k1 : ∀ o, Y.cell? ⟨s0 + 1, o, none⟩ = wa.cell? ⟨s0 + 1, o, none⟩ := fun o => hY.cell (p := ⟨s0 + 1, o, none⟩) (by show s0 + 1 < _; omega)
  exact ⟨(k0 0).trans (hc 0 _ rfl), (k0 1).trans (hc 1 _ rfl), (k0 2).trans (hc 2 _ rfl), (k1 0).trans (hc2 0 _ rfl), (k1 1).trans (hc2 1 _ rfl), (k1 2).trans (hc2 2 _ rfl)⟩)
 have HBA := hid hba
 have HT := hid (fun (Y : World) (hY : Below wa.heap.size wa Y) => show Calls Tryz.prog 23 #[.int .i64 (-1), .agg #[.bool t, .slice ma mn mc, .slice ea en ec]] Y (fun e w' => ∃ x, e = .returned x ∧ RatQ w' x (3 + K) (!t) M E ∧ Below Y.heap.size Y w') from by
  have h0 := rtimes_c Y (-1) (.agg #[.bool t, .slice ma mn mc, .slice ea en ec]) K t M E (by decide) ⟨_, _, _, _, _, _, rfl, hM.below (zAA hba hY), hE.below (zAA hba hY)⟩ (by omega)
  have e1 : (t != decide ((-1 : Int) < 0)) = !t := by cases t <;> rfl
  have e2 : (((-1 : Int).natAbs : Nat) : Int) * M = M := by simp
  rwa [e1, e2] at h0)
 have HA := hid (fun (Y : World) (hY : Below wa.heap.size wa Y) => show RatQ Y (.agg #[.bool s, .slice na nn nc, .slice da dn dc]) L s N D from ⟨_, _, _, _, _, _, rfl, hN.below (zAA hba hY), hD.below (zAA hba hY)⟩)
 obtain ⟨⟨P1, P2, P3⟩, hP⟩ : ∃ P, P = zFS (s, N, D) (!t, M, E) := ⟨_, rfl⟩
 have HP := hid hP
 have HVAL := hid (show sgn P1 P2 = sgn s N * E - sgn t M * D from by
  have h1 := plusQ_val (s := s) (t := !t) (N := N) (D := D) (M := M) (E := E)
  rw [<- hP] at h1
  simp only [] at h1
  have h2 : sgn (!t) M = - sgn t M := by cases t <;> simp [sgn]
  rw [h2] at h1
  rw [h1, Int.neg_mul]
  omega)
 clear hP
 obtain ⟨C, hC⟩ := exq (cmpI (sgn s N * E) (sgn t M * D))
 rw [<- hC]
 have HVC := hid (show (P2 = 0 -> C = 0) ∧ (P2 ≠ 0 -> 0 <= P2 -> P1 = false -> C = 1) ∧ (P2 ≠ 0 -> 0 <= P2 -> P1 = true -> C = -1) from by
  rw [hC]
  have hval := HVAL.out
  generalize sgn s N * E = X at hval ⊢
  generalize sgn t M * D = Y at hval ⊢
  unfold cmpI
  refine ⟨fun h => ?_, fun h h0 e => ?_, fun h h0 e => ?_⟩
  ·subst h
   have : X = Y := by unfold sgn at hval; split at hval <;> omega
   simp [this]
  ·subst e
   have : P2 = X - Y := by simpa [sgn] using hval
   rw [if_neg (by omega), if_neg (by omega)]
  ·subst e
   have : -P2 = X - Y := by simpa [sgn] using hval
   rw [if_pos (by omega)])
 clear hC HVAL
 clear hba hs1 hc hc2 hN hD hM hE
 go_enter Tryz.func21, Tryz.ntmps21
 go_wp2_with fail
 rw [<- hs, <- hwa]
 clear hs hwa
 refine zNJ (OrdMid wa P1 P2) ?_ ?_
 ·refine zAG (fun j' X => wAll j' = true -> X.cell? ⟨s0, 0, none⟩ = some (.bool s) ∧ X.cell? ⟨s0, 1, none⟩ = some (.slice na nn nc) ∧ X.cell? ⟨s0, 2, none⟩ = some (.slice da dn dc) ∧ X.cell? ⟨s0 + 1, 0, none⟩ = some (.bool t) ∧ X.cell? ⟨s0 + 1, 1, none⟩ = some (.slice ma mn mc) ∧ X.cell? ⟨s0 + 1, 2, none⟩ = some (.slice ea en ec)) (by kernel_rfl) ?_
  have hbd : Below wa.heap.size wa wa.drew := (Below.refl _ _).drew
  generalize wa.drew = wd at hbd ⊢
  refine AnyT.tD (i := 0) (v := .agg #[.bool s, .slice na nn nc, .slice da dn dc]) rfl rfl (by rintro w' ⟨y1, y2, y3, y4, y5, y6⟩; go_simp) (HS.out _ hbd) ?_; go_frame
  refine AnyT.tD (i := 1) (v := .agg #[.bool t, .slice ma mn mc, .slice ea en ec]) rfl rfl (by rintro w' ⟨y1, y2, y3, y4, y5, y6⟩; go_simp) (HS.out _ hbd) ?_; go_frame
  refine AnyT.nextB (i := 2) (j := 4) (by kernel_rfl) (wpOp_of_list rfl ?_) (wpOp_of_list rfl ?_)
  ·skip
   go_wp2_with (go_at_call 23; refine (HT.out _ hbd).mono ?_; rintro e w1 ⟨vw1, rfl, ⟨ta, tn, tc, tb, tm, te, rfl, ht1, ht2⟩, hbw1⟩; refine Stop.of ?_)
   refine Stop.go ?_
   have HT8 := hid (show RatQ w1 (.agg #[.bool (!t), .slice ta tn tc, .slice tb tm te]) (3 + K) (!t) M E from ⟨_, _, _, _, _, _, rfl, ht1, ht2⟩)
   have hbT := zAA hbd hbw1
   clear ht1 ht2
   go_wp2
   refine ⟨fun _ => HS.out _ hbT, ?_⟩
   refine AnyT.nextB (i := 3) (j := 4) (by kernel_rfl) (wpOp_of_list rfl ?_) (wpOp_of_list rfl ?_)
   ·skip
    go_wp2_with (go_at_call 24; refine (zON _ _ _ L (3 + K) _ _ _ _ _ _ (HA.out _ hbT) HT8.out (by omega) (by omega)).mono ?_; rintro e w2 ⟨vw2, rfl, ⟨pa, pn, pc, qa, qn, qc, rfl, hp1, hp2⟩, hbw2⟩; refine Stop.of ?_)
    refine Stop.go ?_
    have hbP := zAA hbT hbw2
    have HPZ := hid (show (pn = 0 ↔ P2 = 0) ∧ 0 <= P2 from by
     rw [<- HP.out] at hp1
     refine ⟨?_, hp1.nonneg⟩
     obtain ⟨_, _, _, l, e1, e2, _, _, e4, e5, e6⟩ := hp1
     cases e1
     simp only [] at e6
     rw [<- e6, zLM e4 e5, e2])
    have HPB := hid (show (zFS (s, N, D) (!t, M, E)).1 = P1 from by rw [<- HP.out])
    clear hp1 hp2
    go_wp2
    refine ⟨fun _ => HS.out _ hbP, ?_⟩
    refine AnyT.nx (i := 4) rfl ?_
    go_wp2
    have hbA := hbP.alloc hbP.size (.cells #[.bool false, .slice none 0 0, .slice none 0 0] 37)
    obtain ⟨x0, x1, x2, f0, f1, f2, hlt⟩ := rat_new (World.alloc_heap_new w2 (.cells #[.bool false, .slice none 0 0, .slice none 0 0] 37))
    have hfin := hid (fun u v z => rat_set (World.alloc_heap_new w2 (.cells #[.bool false, .slice none 0 0, .slice none 0 0] 37)) hbP.size hbA u v z)
    refine ⟨fun _ => HS.out _ hbA, ?_⟩
    generalize w2.alloc (.cells #[.bool false, .slice none 0 0, .slice none 0 0] 37) = wn at *
    generalize w2.heap.size = g at *
    refine AnyT.nx (i := 5) rfl ?_
    go_wp2
    obtain ⟨k0, k1, k2, k3⟩ := hfin.out (.bool (zFS (s, N, D) (!t, M, E)).1) (.slice pa pn pc) (.slice qa qn qc)
    refine ⟨fun _ => HS.out _ k3, ?_⟩
    refine AnyT.done (by kernel_rfl) ?_ _
    exact ⟨rfl, g, pa, pn, pc, qa, qn, qc, _, _, _, _, rfl, k0.trans (congrArg (fun q => some (Value.bool q)) HPB.out), k1, k2, HPZ.out.1, HPZ.out.2, k3⟩
   ·skip
    go_wp2
    have hbA := hbT.alloc hbT.size (.cells #[.bool false, .slice none 0 0, .slice none 0 0] 37)
    have hnew := World.alloc_heap_new w1 (.cells #[.bool false, .slice none 0 0, .slice none 0 0] 37)
    have HT9 := hid (show RatQ (w1.alloc (.cells #[.bool false, .slice none 0 0, .slice none 0 0] 37)) (.agg #[.bool (!t), .slice ta tn tc, .slice tb tm te]) (3 + K) (!t) M E from by
     obtain ⟨_, _, _, _, _, _, e, h1, h2⟩ := HT8.out
     cases e
     exact ⟨_, _, _, _, _, _, rfl, h1.below ((Below.refl _ _).alloc (Nat.le_refl _) _), h2.below ((Below.refl _ _).alloc (Nat.le_refl _) _)⟩)
    have hgN := hbT.size
    generalize w1.alloc (.cells #[.bool false, .slice none 0 0, .slice none 0 0] 37) = wn at hbA hnew HT9 ⊢
    obtain ⟨g, hg⟩ := exq (w1.heap.size)
    rw [<- hg] at hnew hgN ⊢
    clear hg HT8
    refine ⟨fun _ => HS.out _ hbA, ?_⟩
    refine AnyT.nx (i := 3) rfl ?_
    go_wp2_with (go_at_call 24; refine (zON _ _ _ L (3 + K) _ _ _ _ _ _ (HA.out _ hbA) HT9.out (by omega) (by omega)).mono ?_; rintro e w2 ⟨vw2, rfl, ⟨pa, pn, pc, qa, qn, qc, rfl, hp1, hp2⟩, hbw2⟩; refine Stop.of ?_)
    refine Stop.go ?_
    have hbP := zAA hbA hbw2
    have HPZ := hid (show (pn = 0 ↔ P2 = 0) ∧ 0 <= P2 from by
     rw [<- HP.out] at hp1
     refine ⟨?_, hp1.nonneg⟩
     obtain ⟨_, _, _, l, e1, e2, _, _, e4, e5, e6⟩ := hp1
     cases e1
     simp only [] at e6
     rw [<- e6, zLM e4 e5, e2])
    have HPB := hid (show (zFS (s, N, D) (!t, M, E)).1 = P1 from by rw [<- HP.out])
    clear hp1 hp2
    have hnew2 := (hbw2.block g (Array.getElem?_eq_some_iff.1 hnew).1).trans hnew
    obtain ⟨x0, x1, x2, f0, f1, f2, hlt⟩ := rat_new hnew2
    have hfin := hid (fun u v z => rat_set hnew2 hgN hbP u v z)
    clear hnew2 hnew
    go_wp2
    refine ⟨fun _ => HS.out _ hbP, ?_⟩
    refine AnyT.nx (i := 5) rfl ?_
    go_wp2
    obtain ⟨k0, k1, k2, k3⟩ := hfin.out (.bool (zFS (s, N, D) (!t, M, E)).1) (.slice pa pn pc) (.slice qa qn qc)
    refine ⟨fun _ => HS.out _ k3, ?_⟩
    refine AnyT.done (by kernel_rfl) ?_ _
    exact ⟨rfl, g, pa, pn, pc, qa, qn, qc, _, _, _, _, rfl, k0.trans (congrArg (fun q => some (Value.bool q)) HPB.out), k1, k2, HPZ.out.1, HPZ.out.2, k3⟩
  ·skip
   go_wp2
   have HB0 := hbd.alloc hbd.size (.cells #[.bool false, .slice none 0 0, .slice none 0 0] 37)
   have hnew := World.alloc_heap_new wd (.cells #[.bool false, .slice none 0 0, .slice none 0 0] 37)
   have hgN := hbd.size
   generalize wd.alloc (.cells #[.bool false, .slice none 0 0, .slice none 0 0] 37) = wn at HB0 hnew ⊢
   obtain ⟨g, hg⟩ := exq (wd.heap.size)
   rw [<- hg] at hnew hgN ⊢
   clear hg
   refine ⟨fun _ => HS.out _ HB0, ?_⟩
   refine AnyT.nx (i := 2) rfl ?_
   ·skip
    go_wp2_with (go_at_call 23; refine (HT.out _ HB0).mono ?_; rintro e w1 ⟨vw1, rfl, ⟨ta, tn, tc, tb, tm, te, rfl, ht1, ht2⟩, hbw1⟩; refine Stop.of ?_)
    refine Stop.go ?_
    have HT8 := hid (show RatQ w1 (.agg #[.bool (!t), .slice ta tn tc, .slice tb tm te]) (3 + K) (!t) M E from ⟨_, _, _, _, _, _, rfl, ht1, ht2⟩)
    have hbT := zAA HB0 hbw1
    clear ht1 ht2
    have hnew1 := (hbw1.block g (Array.getElem?_eq_some_iff.1 hnew).1).trans hnew
    clear hnew
    go_wp2
    refine ⟨fun _ => HS.out _ hbT, ?_⟩
    refine AnyT.nx (i := 3) rfl ?_
    go_wp2_with (go_at_call 24; refine (zON _ _ _ L (3 + K) _ _ _ _ _ _ (HA.out _ hbT) HT8.out (by omega) (by omega)).mono ?_; rintro e w2 ⟨vw2, rfl, ⟨pa, pn, pc, qa, qn, qc, rfl, hp1, hp2⟩, hbw2⟩; refine Stop.of ?_)
    refine Stop.go ?_
    have hbP := zAA hbT hbw2
    have HPZ := hid (show (pn = 0 ↔ P2 = 0) ∧ 0 <= P2 from by
     rw [<- HP.out] at hp1
     refine ⟨?_, hp1.nonneg⟩
     obtain ⟨_, _, _, l, e1, e2, _, _, e4, e5, e6⟩ := hp1
     cases e1
     simp only [] at e6
     rw [<- e6, zLM e4 e5, e2])
    have HPB := hid (show (zFS (s, N, D) (!t, M, E)).1 = P1 from by rw [<- HP.out])
    clear hp1 hp2
    have hnew2 := (hbw2.block g (Array.getElem?_eq_some_iff.1 hnew1).1).trans hnew1
    obtain ⟨x0, x1, x2, f0, f1, f2, hlt⟩ := rat_new hnew2
    have hfin := hid (fun u v z => rat_set hnew2 hgN hbP u v z)
    clear hnew2 hnew1
    go_wp2
    refine ⟨fun _ => HS.out _ hbP, ?_⟩
    refine AnyT.nx (i := 5) rfl ?_
    go_wp2
    obtain ⟨k0, k1, k2, k3⟩ := hfin.out (.bool (zFS (s, N, D) (!t, M, E)).1) (.slice pa pn pc) (.slice qa qn qc)
    refine ⟨fun _ => HS.out _ k3, ?_⟩
    refine AnyT.done (by kernel_rfl) ?_ _
    exact ⟨rfl, g, pa, pn, pc, qa, qn, qc, _, _, _, _, rfl, k0.trans (congrArg (fun q => some (Value.bool q)) HPB.out), k1, k2, HPZ.out.1, HPZ.out.2, k3⟩
 ·rintro fr' W ⟨g, pa, pn, pc, qa, qn, qc, r6, r7, r8, r9, rfl, c0, c1, c2, hz, h0, hbW⟩
  have HBW := hid (zAA HBA.out hbW)
  have HC := hid (show (pn = 0 -> C = 0) ∧ (pn ≠ 0 -> P1 = false -> C = 1) ∧ (pn ≠ 0 -> P1 = true -> C = -1) from
   ⟨fun h => HVC.out.1 (hz.1 h), fun h e => HVC.out.2.1 (fun h' => h (hz.2 h')) h0 e, fun h e => HVC.out.2.2 (fun h' => h (hz.2 h')) h0 e⟩)
  clear hz hbW h0 HVC HP
  go_frame
  by_cases hp : pn = 0
  ·have hpb : ((pn : Int) == 0) = true := by simp [hp]
   obtain rfl := HC.out.1 hp
   clear HC
   go_wp2
   go_ret
   exact ⟨rfl, HBW.out⟩
  ·have hpb : ((pn : Int) == 0) = false := by simp [hp]
   cases P1
   ·obtain rfl := HC.out.2.1 hp rfl
    clear HC
    go_wp2
    go_ret
    exact ⟨rfl, HBW.out⟩
   ·obtain rfl := HC.out.2.2 hp rfl
    clear HC
    go_wp2
    go_ret
    exact ⟨rfl, HBW.out⟩
end
section
open Go.RowKit
theorem RatQ.cast_den {w : World} {v : Value} {L : Nat} {s : Bool} {N D E : Int} (h : RatQ w v L s N D) (e : D = E) : RatQ w v L s N E := e ▸ h
def RatV (w : World) (v : Value) (L : Nat) (n d : Int) : Prop := ∃ s N, RatQ w v L s N d ∧ sgn s N = n
theorem RatV.below {w w' : World} {v : Value} {L : Nat} {n d : Int} (h : RatV w v L n d) (hb : Below w.heap.size w w') : RatV w' v L n d := by
 obtain ⟨s, N, h, e⟩ := h
 exact ⟨s, N, h.below hb, e⟩
theorem RatV.agg {w : World} {v : Value} {L : Nat} {n d : Int} (h : RatV w v L n d) : ∃ s a k c b m e, v = .agg #[.bool s, .slice a k c, .slice b m e] ∧ True := by
 obtain ⟨s, N, ⟨a, k, c, b, m, e, rfl, _, _⟩, _⟩ := h
 exact ⟨s, a, k, c, b, m, e, rfl, trivial⟩
theorem RatV.le {w : World} {v : Value} {L K : Nat} {n d : Int} (h : RatV w v L n d) (hk : L <= K) : RatV w v K n d := by
 obtain ⟨s, N, h, e⟩ := h
 exact ⟨s, N, h.le hk, e⟩
theorem sgn_nat (N : Int) : sgn (decide (N < 0)) (N.natAbs : Nat) = N := by
 unfold sgn
 by_cases h : N < 0 <;> simp [h] <;> omega
theorem rplus_v (w : World) (v u : Value) (L K : Nat) (n d m e : Int) (h : RatV w v L n d) (k : RatV w u K m e) (hL : L <= 100) (hK : K <= 100) :
 Calls Tryz.prog 24 #[v, u] w fun e' w' => ∃ x, e' = .returned x ∧ RatV w' x (L + K + 1) (n * e + m * d) (d * e) ∧ Below w.heap.size w w' := by
 obtain ⟨s, N, h, rfl⟩ := h
 obtain ⟨t, M, k, rfl⟩ := k
 refine (zON w v u L K s t N d M e h k hL hK).mono ?_
 rintro e' w' ⟨x, rfl, hx, hb⟩
 refine ⟨x, rfl, ⟨_, _, hx.cast_den plusQ_den, plusQ_val⟩, hb⟩
theorem exact_v (w : World) (N D : Int) (hN : -4611686018427387904 <= N ∧ N <= 4611686018427387904) (hD : 0 <= D ∧ D <= 4611686018427387904) :
 Calls Tryz.prog 22 #[.agg #[.int .i64 N, .int .i64 D]] w fun e w' => ∃ x, e = .returned x ∧ RatV w' x 3 N D ∧ Below w.heap.size w w' := by
 refine (exact_c w N D hN hD).mono ?_
 rintro e' w' ⟨x, rfl, hx, hb⟩
 exact ⟨x, rfl, ⟨_, _, hx, sgn_nat N⟩, hb⟩
theorem whole_v (w : World) (n : Int) (hN : -4611686018427387904 <= n ∧ n <= 4611686018427387904) :
 Calls Tryz.prog 91 #[.int .i64 n] w fun e w' => ∃ x, e = .returned x ∧ RatV w' x 3 n 1 ∧ Below w.heap.size w w' := by
 refine (nwhole_c w n hN).mono ?_
 rintro e' w' ⟨x, rfl, hx, hb⟩
 exact ⟨x, rfl, ⟨_, _, hx, sgn_nat n⟩, hb⟩
theorem rorder_v (w : World) (v u : Value) (L K : Nat) (n d m e : Int) (h : RatV w v L n d) (k : RatV w u K m e) (hL : L <= 100) (hK : K <= 97) :
 Calls Tryz.prog 21 #[v, u] w fun e' w' => e' = .returned (.int .i64 (cmpI (n * e) (m * d))) ∧ Below w.heap.size w w' := by
 obtain ⟨s, N, h, rfl⟩ := h
 obtain ⟨t, M, k, rfl⟩ := k
 exact rorder_c w v u L K s t N d M e h k hL hK
def zPN (w : World) (g L : Nat) (n d : Int) : Prop := ∃ s a k c b m e, w.heap[g]? = some (.cells #[.bool s, .slice a k c, .slice b m e] 37 (0, 0)) ∧ RatV w (.agg #[.bool s, .slice a k c, .slice b m e]) L n d
theorem zPN.below {w w' : World} {g L : Nat} {n d : Int} (h : zPN w g L n d) (hb : Below w.heap.size w w') : zPN w' g L n d := by
 obtain ⟨s, a, k, c, b, m, e, h1, h2⟩ := h
 exact ⟨s, a, k, c, b, m, e, (hb.block g (Array.getElem?_eq_some_iff.1 h1).1).trans h1, h2.below hb⟩
theorem zPN.le {w : World} {g L K : Nat} {n d : Int} (h : zPN w g L n d) (hk : L <= K) : zPN w g K n d := by
 obtain ⟨s, a, k, c, b, m, e, h1, h2⟩ := h
 exact ⟨s, a, k, c, b, m, e, h1, h2.le hk⟩
def QBlk (w : World) (g : Nat) : Prop := ∃ s a k c b m e, w.heap[g]? = some (.cells #[.bool s, .slice a k c, .slice b m e] 37 (0, 0))
theorem QBlk.store {w : World} {g : Nat} (h : QBlk w g) {v : Value} {L : Nat} {n d : Int} (k : RatV w v L n d) :
 ∃ s a k c b m e, v = .agg #[.bool s, .slice a k c, .slice b m e] ∧ (∀ o, o < 3 -> ∃ u, w.cell? ⟨g, o, none⟩ = some u) ∧ (∀ o, w.frozen? ⟨g, o, none⟩ = false) ∧ g < w.heap.size ∧
   zPN (((w.setCell ⟨g, 0, none⟩ (.bool s)).setCell ⟨g, 1, none⟩ (.slice a k c)).setCell ⟨g, 2, none⟩ (.slice b m e)) g L n d ∧
   RatV (((w.setCell ⟨g, 0, none⟩ (.bool s)).setCell ⟨g, 1, none⟩ (.slice a k c)).setCell ⟨g, 2, none⟩ (.slice b m e)) (.agg #[.bool s, .slice a k c, .slice b m e]) L n d := by
 obtain ⟨s0, a0, k0, c0, b0, m0, e0, h1⟩ := h
 obtain ⟨t, N, ⟨a, k, c, b, m, e, rfl, hN, hD⟩, hv⟩ := k
 have hng : ∃ c, w.heap[g]? = some (.cells c 37 (0, 0)) ∧ ∀ x : Int, ∀ o : Nat, c[o]? ≠ some (.int .i64 x) :=
  ⟨_, h1, fun x o => by match o with | 0 => simp | 1 => simp | 2 => simp | o + 3 => simp⟩
 have hr : RatV (((w.setCell ⟨g, 0, none⟩ (.bool t)).setCell ⟨g, 1, none⟩ (.slice a k c)).setCell ⟨g, 2, none⟩ (.slice b m e)) (.agg #[.bool t, .slice a k c, .slice b m e]) L n d :=
  ⟨t, N, ⟨_, _, _, _, _, _, rfl, hN.keeps3 hng, hD.keeps3 hng⟩, hv⟩
 refine ⟨t, a, k, c, b, m, e, rfl, ?_, fun o => by simp [World.frozen?, h1], (Array.getElem?_eq_some_iff.1 h1).1, ?_, hr⟩
 ·intro o ho
  match o with
  | 0 => exact ⟨_, by simp [World.cell?, h1]; rfl⟩
  | 1 => exact ⟨_, by simp [World.cell?, h1]; rfl⟩
  | 2 => exact ⟨_, by simp [World.cell?, h1]; rfl⟩
  | o + 3 => omega
 ·have h2 := zJQ (zJQ (zJQ h1 0 (.bool t)) 1 (.slice a k c)) 2 (.slice b m e)
  exact ⟨t, a, k, c, b, m, e, h2, hr⟩
end
section
open Go.RowKit
theorem rsize_c (w : World) (v : Value) (L : Nat) (s : Bool) (N D : Int) (h : RatQ w v L s N D) :
 Calls Tryz.prog 125 #[v] w fun e w' => ∃ x, e = .returned x ∧ RatQ w' x L false N D ∧ Below w.heap.size w w' := by
 obtain ⟨na, nn, nc, da, dn, dc, rfl, hN, hD⟩ := h
 obtain ⟨s0, hs⟩ := exq (w.heap.size)
 obtain ⟨wa, hwa⟩ := exq ((w.alloc (.cells #[.bool s, .slice na nn nc, .slice da dn dc] 37)).alloc (.cells #[.bool false, .slice none 0 0, .slice none 0 0] 37))
 have hba : Below w.heap.size w wa := by rw [hwa]; exact ((Below.refl _ _).alloc (Nat.le_refl _) _).alloc (by simp) _
 have q0 : wa.heap[s0 + 1]? = some (.cells #[.bool false, .slice none 0 0, .slice none 0 0] 37 (0, 0)) := by
  have := World.alloc_heap_new (w.alloc (.cells #[.bool s, .slice na nn nc, .slice da dn dc] 37)) (.cells #[.bool false, .slice none 0 0, .slice none 0 0] 37)
  rw [hwa, hs]
  simpa using this
 have hs1 : s0 + 1 < wa.heap.size := (Array.getElem?_eq_some_iff.1 q0).1
 have hc : ∀ o v, (#[Value.bool s, .slice na nn nc, .slice da dn dc] : Array Value)[o]? = some v -> wa.cell? ⟨s0, o, none⟩ = some v := fun o v h => by
  rw [hwa, hs, World.cell?_alloc_past _ _ _ (by simp), World.cell?_alloc_at _ _ _ _ rfl]; exact h
 have HS := hid (fun (Y : World) (hY : Below wa.heap.size wa Y) => show Y.cell? ⟨s0, 0, none⟩ = some (.bool s) ∧ Y.cell? ⟨s0, 1, none⟩ = some (.slice na nn nc) ∧ Y.cell? ⟨s0, 2, none⟩ = some (.slice da dn dc) from by
  have k0 : ∀ o, Y.cell? ⟨s0, o, none⟩ = wa.cell? ⟨s0, o, none⟩ := fun o => hY.cell (p := ⟨s0, o, none⟩) (by show s0 < _; omega)
  exact ⟨(k0 0).trans (hc 0 _ rfl), (k0 1).trans (hc 1 _ rfl), (k0 2).trans (hc 2 _ rfl)⟩)
 have HR := hid (fun (Y : World) (hY : Below wa.heap.size wa Y) => show Y.cell? ⟨s0 + 1, 0, none⟩ = some (.bool false) ∧ Y.cell? ⟨s0 + 1, 1, none⟩ = some (.slice none 0 0) ∧ Y.cell? ⟨s0 + 1, 2, none⟩ = some (.slice none 0 0) ∧ (∀ o, Y.frozen? ⟨s0 + 1, o, none⟩ = false) ∧ s0 + 1 < Y.heap.size from by
  have h1 := (hY.block (s0 + 1) hs1).trans q0
  exact ⟨by simp [World.cell?, h1], by simp [World.cell?, h1], by simp [World.cell?, h1], fun o => by simp [World.frozen?, h1], (Array.getElem?_eq_some_iff.1 h1).1⟩)
 have HFIN := hid (fun (Y : World) (hY : Below wa.heap.size wa Y) (x y z : Value) => show Below w.heap.size w (((Y.setCell ⟨s0 + 1, 0, none⟩ x).setCell ⟨s0 + 1, 1, none⟩ y).setCell ⟨s0 + 1, 2, none⟩ z) from
  zAD (zAD (zAD (zAA hba hY) (by omega) 0 x) (by omega) 1 y) (by omega) 2 z)
 have HNG := hid (fun (Y : World) (hY : Below wa.heap.size wa Y) => show ∃ c, Y.heap[s0 + 1]? = some (.cells c 37 (0, 0)) ∧ ∀ x : Int, ∀ o : Nat, c[o]? ≠ some (.int .i64 x) from
  ⟨_, (hY.block (s0 + 1) hs1).trans q0, fun x o => by match o with | 0 => simp | 1 => simp | 2 => simp | o + 3 => simp⟩)
 have HNN := hid (fun (Y : World) (hY : Below wa.heap.size wa Y) => And.intro (hN.below (zAA hba hY)) (hD.below (zAA hba hY)))
 obtain ⟨c0, c1, c2⟩ := HS.out wa (Below.refl _ _)
 obtain ⟨x0, x1, x2, hfz, hlt⟩ := HR.out wa (Below.refl _ _)
 have f0 := hfz 0
 have f1 := hfz 1
 have f2 := hfz 2
 have HK1 := hid ((HNN.out wa (Below.refl _ _)).1.keeps3 (g := s0 + 1) (u := .bool false) (v := .slice na nn nc) (z := .slice da dn dc) (HNG.out _ (Below.refl _ _)))
 have HK2 := hid ((HNN.out wa (Below.refl _ _)).2.keeps3 (g := s0 + 1) (u := .bool false) (v := .slice na nn nc) (z := .slice da dn dc) (HNG.out _ (Below.refl _ _)))
 have HFI := hid (HFIN.out _ (Below.refl _ _) (.bool false) (.slice na nn nc) (.slice da dn dc))
 have HWA := hid hwa
 have HSS := hid hs
 clear hba q0 hs1 hc hN hD hfz hwa
 go_enter Tryz.func125, Tryz.ntmps125
 go_upto_region 1 with fail
 rw [<- hs, <- HWA.out]
 clear hs
 go_wp2
 refine bodyPost_ret (v := .agg #[.bool false, .slice na nn nc, .slice da dn dc]) ?_ rfl ⟨_, rfl, ⟨_, _, _, _, _, _, rfl, HK1.out, HK2.out⟩, HFI.out⟩
 simp [results, Tryz.results125, go_sem, x0, x1, x2, f0, f1, f2, hlt]
theorem rsize_v (w : World) (v : Value) (L : Nat) (n d : Int) (h : RatV w v L n d) :
 Calls Tryz.prog 125 #[v] w fun e w' => ∃ x, e = .returned x ∧ RatV w' x L (n.natAbs : Nat) d ∧ Below w.heap.size w w' := by
 obtain ⟨s, N, h, rfl⟩ := h
 refine (rsize_c w v L s N d h).mono ?_
 rintro e w' ⟨x, rfl, hx, hb⟩
 have h0 : 0 <= N := by obtain ⟨_, _, _, _, _, _, _, hN, _⟩ := h; exact hN.nonneg
 refine ⟨x, rfl, ⟨false, N, hx, ?_⟩, hb⟩
 unfold sgn; cases s <;> simp <;> omega
end
section
open Go.RowKit
theorem r5norm_c (w : World) (a2 : Option Addr) (n cap2 : Nat) (x : List Rt) (hn : x.length = n) (hm : n <= 10) (H2 : zCJ w a2 x)
 (hx : ∀ k, 0 <= (zAE x k).2 ∧ (zAE x k).2 <= 1000000000000 ∧ -1000000000000 <= (zAE x k).1 ∧ (zAE x k).1 <= 1000000000000) :
 Calls Tryz.prog 87 #[.slice a2 n cap2] w fun e w' => ∃ v, e = .returned v ∧ RatV w' v 90 (zHZ x).1 (zHZ x).2 ∧ Below w.heap.size w w' := by
 obtain ⟨s0, hs⟩ := exq (w.heap.size)
 obtain ⟨wa, hwa⟩ := exq (w.alloc (.cells #[.bool false, .slice none 0 0, .slice none 0 0] 37))
 have hba : Below w.heap.size w wa := by rw [hwa]; exact (Below.refl _ _).alloc (Nat.le_refl _) _
 have q0 : wa.heap[s0]? = some (.cells #[.bool false, .slice none 0 0, .slice none 0 0] 37 (0, 0)) := by
  rw [hwa, hs]; exact World.alloc_heap_new w _
 have hs1 : s0 < wa.heap.size := (Array.getElem?_eq_some_iff.1 q0).1
 have HQ0 := hid (fun (Y : World) (hY : Below wa.heap.size wa Y) => show QBlk Y s0 from ⟨_, _, _, _, _, _, _, (hY.block s0 hs1).trans q0⟩)
 have HBA := hid hba
 have HFIN := hid (fun (Y : World) (hY : Below wa.heap.size wa Y) (x y z : Value) => show Below w.heap.size w (((Y.setCell ⟨s0, 0, none⟩ x).setCell ⟨s0, 1, none⟩ y).setCell ⟨s0, 2, none⟩ z) from
  zAD (zAD (zAD (zAA hba hY) (by omega) 0 x) (by omega) 1 y) (by omega) 2 z)
 have HXI := hid (fun (X : World) (hX : Below wa.heap.size wa X) => H2.below (zAA hba hX))
 have HX := hid hx
 have HN := hid hn
 have HSQ := hid (show zHZ x = nrmS x n by unfold zHZ; rw [hn])
 have HSZ := hid (show nrmS x 0 = (0, 1) from rfl)
 have HSR := hid (fun t => show nrmS x (t + 1) = if (zAE x t).1 ≠ 0 then ((nrmS x t).1 * (zAE x t).2 + ((zAE x t).1.natAbs : Int) * (nrmS x t).2, (nrmS x t).2 * (zAE x t).2) else nrmS x t from rfl)
 clear hba q0 hs1 H2 hx hn
 go_enter Tryz.func87, Tryz.ntmps87
 go_wp2_with fail
 rw [<- hs, <- hwa]
 clear hs hwa
 go_wp2_with (go_at_call 91; refine (whole_v _ 0 (by decide)).mono ?_; rintro e w1 ⟨v1, rfl, hv1, hb1⟩; refine Stop.of ?_)
 refine Stop.go ?_
 obtain ⟨ss, sa, sk, sc, sb, sm', se, rfl, _⟩ := hv1.agg
 have HV1 := hid hv1
 have HB1 := hid hb1
 clear hv1 hb1
 go_wp2_with fail
 obtain ⟨wb, hwb⟩ := exq (w1.alloc (.cells #[.bool ss, .slice sa sk sc, .slice sb sm' se] 37))
 obtain ⟨g, hg⟩ := exq (w1.heap.size)
 have hrb : zPN wb g 3 0 1 := by
  rw [hwb, hg]
  exact ⟨ss, sa, sk, sc, sb, sm', se, World.alloc_heap_new _ _, HV1.out.below ((Below.refl _ _).alloc (Nat.le_refl _) _)⟩
 have hbb : Below wa.heap.size wa wb := by rw [hwb]; exact HB1.out.alloc HB1.out.size _
 have hgs : wa.heap.size <= g := by rw [hg]; exact HB1.out.size
 rw [<- hwb, <- hg]
 have HRB := hid hrb
 have HBB := hid hbb
 clear hwb hg hrb hbb HV1 HB1
 go_loopw [9] (fun i wr => ∃ t : Nat, t <= n ∧ i = .int .i64 t ∧ zPN wr g (3 + 7 * t) (nrmS x t).1 (nrmS x t).2 ∧ Below wa.heap.size wa wr) (fun i _ => n - (intOf i).toNat)
 case atStart => exact ⟨0, Nat.zero_le _, rfl, by rw [HSZ.out]; exact HRB.out, HBB.out⟩
 case round =>
  obtain ⟨t, ht, rfl, hrr, hbr⟩ := hrel
  by_cases htl : t < n
  ·have htx : t < x.length := by rw [HN.out]; exact htl
   obtain ⟨bx, ox, rfl, hbx, hx0, hx1⟩ := (HXI.out wr hbr) t htx
   have hxt : zAE x t = x[t]'htx := by unfold zAE; rw [List.getElem?_eq_getElem htx]; rfl
   rw [<- hxt] at hx0 hx1
   obtain ⟨x1, x2, x3, x4⟩ := HX.out t
   have hsr := HSR.out t
   obtain ⟨⟨N, D⟩, hND⟩ : ∃ q, q = zAE x t := ⟨_, rfl⟩
   rw [<- hND] at hx0 hx1 x1 x2 x3 x4 hsr
   simp only [] at hx0 hx1 x1 x2 x3 x4 hsr
   have i0 : (0 : Int) <= (t : Int) := by omega
   have i1 : (t : Int) < (n : Int) := by omega
   have HRR := hid hrr
   have HBR := hid hbr
   have HXS := hid hsr
   have HND := hid (And.intro (And.intro x3 x4) (And.intro x1 x2))
   clear hsr hND hxt hrr hbr x1 x2 x3 x4 hbx
   go_upto_region 5 with fail
   obtain ⟨h, hh⟩ := exq (wr.heap.size)
   obtain ⟨wh, hwh⟩ := exq (wr.alloc (.cells #[.int .i64 N, .int .i64 D] 29))
   rw [<- hh, <- hwh]
   have hbh : Below wr.heap.size wr wh := by rw [hwh]; exact (Below.refl _ _).alloc (Nat.le_refl _) _
   have HRH := hid (show RatI wh h (N, D) by rw [hwh, hh]; exact RatI.made wr (N, D))
   have HBH := hid (zAA HBR.out hbh)
   have HRR2 := hid (HRR.out.below hbh)
   clear hx0 hx1 hh hwh hbh
   obtain ⟨h0, h1, _⟩ := HRH.out.cells
   simp only [] at h0 h1
   by_cases hz : N = 0
   ·have hvb : (N != 0) = false := by simp [hz]
    have HNX := hid (show nrmS x (t + 1) = nrmS x t by rw [HXS.out, if_neg (by simp [hz])])
    clear hz
    go_wp2
    refine ⟨⟨t + 1, by omega, by go_num, by rw [HNX.out]; exact HRR2.out.le (by omega), HBH.out⟩, by simp [intOf]; omega⟩
   ·have hvb : (N != 0) = true := by simp [hz]
    obtain ⟨⟨sn, sd⟩, hS⟩ : ∃ q, q = nrmS x t := ⟨_, rfl⟩
    have hXS := HXS.out
    rw [if_pos hz, <- hS] at hXS
    have HNX := hid hXS
    obtain ⟨us, ua, uk, uc, ub, um, ue, hgb, hrv⟩ := HRR2.out
    rw [<- hS] at hrv
    simp only [] at hrv
    have hglt := (Array.getElem?_eq_some_iff.1 hgb).1
    have HQB := hid (fun (X : World) (hX : Below wh.heap.size wh X) => show QBlk X g from ⟨us, ua, uk, uc, ub, um, ue, (hX.block g hglt).trans hgb⟩)
    have HRV := hid (fun (X : World) (hX : Below wh.heap.size wh X) => hrv.below hX)
    have HS := hid (fun (X : World) (hX : Below wh.heap.size wh X) => show X.cell? ⟨g, 0, none⟩ = some (.bool us) ∧ X.cell? ⟨g, 1, none⟩ = some (.slice ua uk uc) ∧ X.cell? ⟨g, 2, none⟩ = some (.slice ub um ue) ∧ X.cell? ⟨h, 0, none⟩ = some (.int .i64 N) ∧ X.cell? ⟨h, 1, none⟩ = some (.int .i64 D) from by
     have h1 := (hX.block g hglt).trans hgb
     obtain ⟨c0, c1, _⟩ := (HRH.out.keep (hX.block _ HRH.out.lt)).cells
     exact ⟨by simp [World.cell?, h1], by simp [World.cell?, h1], by simp [World.cell?, h1], c0, c1⟩)
    have htn : t < 10 := by omega
    clear hXS hS hgb hrv hz
    go_upto_region 6 with fail
    clear h0 h1
    refine zAG (fun j' X => decide (j' <= 4) = true -> X.cell? ⟨g, 0, none⟩ = some (.bool us) ∧ X.cell? ⟨g, 1, none⟩ = some (.slice ua uk uc) ∧ X.cell? ⟨g, 2, none⟩ = some (.slice ub um ue) ∧ X.cell? ⟨h, 0, none⟩ = some (.int .i64 N) ∧ X.cell? ⟨h, 1, none⟩ = some (.int .i64 D)) (by kernel_rfl) ?_
    have hbd : Below wh.heap.size wh wh.drew := (Below.refl _ _).drew
    generalize wh.drew = wd at hbd ⊢
    refine AnyT.tD (i := 0) (v := .agg #[.bool us, .slice ua uk uc, .slice ub um ue]) rfl rfl (by rintro w' ⟨y1, y2, y3, y4, y5⟩; go_simp) (HS.out _ hbd) ?_; go_frame
    refine AnyT.tD (i := 1) (v := .agg #[.int .i64 N, .int .i64 D]) rfl rfl (by rintro w' ⟨y1, y2, y3, y4, y5⟩; go_simp) (HS.out _ hbd) ?_; go_frame
    refine AnyT.nx (i := 2) rfl ?_
    go_wp2_with (go_at_call 22; refine (exact_v _ N D (by have := HND.out; omega) (by have := HND.out; omega)).mono ?_; rintro e w4 ⟨v4, rfl, hv4, hb4⟩; refine Stop.of ?_)
    refine Stop.go ?_
    obtain ⟨ps, pa, pk, pc, pb, pm, pe, rfl, _⟩ := hv4.agg
    have HB4 := hid (zAA hbd hb4)
    have HV4 := hid hv4
    clear hv4 hb4
    go_wp2
    refine ⟨fun _ => HS.out _ HB4.out, ?_⟩
    refine AnyT.nx (i := 3) rfl ?_
    go_wp2_with (go_at_call 125; refine (rsize_v _ _ 3 N D HV4.out).mono ?_; rintro e w5 ⟨v5, rfl, hv5, hb5⟩; refine Stop.of ?_)
    refine Stop.go ?_
    obtain ⟨qs, qa, qk, qc, qb, qm, qe, rfl, _⟩ := hv5.agg
    have HB5 := hid (zAA HB4.out hb5)
    have HV5 := hid hv5
    clear hv5 hb5 HV4
    go_wp2
    refine ⟨fun _ => HS.out _ HB5.out, ?_⟩
    refine AnyT.nx (i := 4) rfl ?_
    go_wp2_with (go_at_call 24; refine (rplus_v _ _ _ (3 + 7 * t) 3 sn sd (N.natAbs : Nat) D (HRV.out _ HB5.out) HV5.out (by omega) (by omega)).mono ?_; rintro e w6 ⟨v6, rfl, hv6, hb6⟩; refine Stop.of ?_)
    refine Stop.go ?_
    obtain ⟨zs, za, zk, zc, zb, zm, ze, e6, hcl, hfz, hlt, hin, _⟩ := (HQB.out _ (zAA HB5.out hb6)).store hv6
    subst e6
    have HB6 := hid (zAA HBH.out (zAA HB5.out hb6))
    have HB7 := hid (zAA HB5.out hb6)
    obtain ⟨u0, x0⟩ := hcl 0 (by omega)
    obtain ⟨u1, x1⟩ := hcl 1 (by omega)
    obtain ⟨u2, x2⟩ := hcl 2 (by omega)
    have f0 := hfz 0
    have f1 := hfz 1
    have f2 := hfz 2
    have HIN := hid (hin.le (show 3 + 7 * t + 3 + 1 <= 3 + 7 * (t + 1) by omega))
    have HBE := hid (show Below wa.heap.size wa (((w6.setCell ⟨g, 0, none⟩ (.bool zs)).setCell ⟨g, 1, none⟩ (.slice za zk zc)).setCell ⟨g, 2, none⟩ (.slice zb zm ze)) from zAD (zAD (zAD HB6.out hgs 0 _) hgs 1 _) hgs 2 _)
    clear hcl hfz hin hv6 hb6 HV5
    go_wp2
    refine ⟨fun _ => HS.out _ HB7.out, ?_⟩
    refine AnyT.nx (i := 5) rfl ?_
    go_wp2
    refine ⟨fun h => absurd h (by decide), ?_⟩
    refine AnyT.done (by kernel_rfl) ?_ _
    go_wp2
    refine ⟨⟨t + 1, by omega, by go_num, ?_, HBE.out⟩, by simp [intOf]; omega⟩
    rw [HNX.out]
    exact HIN.out
  ·obtain rfl : t = n := by omega
   have hni : ¬ (t : Int) < (t : Int) := by omega
   rw [<- HSQ.out] at hrr
   obtain ⟨us, ua, uk, uc, ub, um, ue, hgb, hrv⟩ := hrr
   obtain ⟨zs, za, zk, zc, zb, zm, ze, e6, hcl, hfz, hlt, hin, hout⟩ := (HQ0.out _ hbr).store hrv
   cases e6
   obtain ⟨u0, x0⟩ := hcl 0 (by omega)
   obtain ⟨u1, x1⟩ := hcl 1 (by omega)
   obtain ⟨u2, x2⟩ := hcl 2 (by omega)
   have f0 := hfz 0
   have f1 := hfz 1
   have f2 := hfz 2
   have g0 : wr.cell? ⟨g, 0, none⟩ = some (.bool us) := by simp [World.cell?, hgb]
   have g1 : wr.cell? ⟨g, 1, none⟩ = some (.slice ua uk uc) := by simp [World.cell?, hgb]
   have g2 : wr.cell? ⟨g, 2, none⟩ = some (.slice ub um ue) := by simp [World.cell?, hgb]
   have HOUT := hid (hout.le (show 3 + 7 * t <= 90 by omega))
   have HFI := hid (HFIN.out _ hbr (.bool us) (.slice ua uk uc) (.slice ub um ue))
   clear hcl hfz hin hout hrv hbr hgb
   go_wp2
   refine bodyPost_ret (v := .agg #[.bool us, .slice ua uk uc, .slice ub um ue]) ?_ rfl ⟨_, rfl, HOUT.out, HFI.out⟩
   simp [results, Tryz.results87, go_sem, x0, x1, x2, f0, f1, f2, hlt]
end
section
def hiS (l : Nat -> Int) (j : Nat) : Int := if l j = 0 then 1 else sgnI (l j)
end
section
def sumP (v : Nat -> Int) (x : List Rt) : Nat -> Int × Int
 | 0 => (0, 1)
 | k + 1 => ((sumP v x k).1 * (zAE x k).2 + (sumP v x k).2 * ((zAE x k).1 * v k), (sumP v x k).2 * (zAE x k).2)
theorem sumP_bnd {v : Nat -> Int} {x : List Rt} (h1 : ∀ k, (v k).natAbs <= 1000000) (hx : ValB x) :
 ∀ k : Nat, (sumP v x k).1.natAbs <= k * 10000000000000000 * 400 ^ k ∧ 1 <= (sumP v x k).2 ∧ (sumP v x k).2.natAbs <= 400 ^ k
 | 0 => by simp [sumP]
 | k + 1 => by
   obtain ⟨i1, i2, i3⟩ := sumP_bnd h1 hx k
   obtain ⟨x1, x2, x3, x4⟩ := hx k
   have hv := h1 k
   have hp : 400 ^ (k + 1) = 400 ^ k * 400 := Nat.pow_succ ..
   have hmono : 400 ^ k <= 400 ^ (k + 1) := by rw [hp]; omega
   rw [sumP]
   simp only []
   generalize sumP v x k = s at i1 i2 i3
   generalize zAE x k = q at x1 x2 x3 x4
   generalize v k = u at hv
   obtain ⟨s1, s2⟩ := s
   obtain ⟨q1, q2⟩ := q
   simp only [] at *
   obtain ⟨p, hpp⟩ := exq (400 ^ k)
   have hP : 400 ^ (k + 1) = p * 400 := by rw [hpp]; exact hp
   rw [<- hpp] at i1 i3
   rw [hP]
   clear hp hmono hP hpp
   obtain ⟨T, hT⟩ := exq (k * p)
   have i1' : s1.natAbs <= T * 10000000000000000 := by rw [hT, <- Nat.mul_right_comm]; exact i1
   have g1 : (k + 1) * 10000000000000000 * (p * 400) = (T * 400 + p * 400) * 10000000000000000 := by
    rw [Nat.mul_right_comm, Nat.add_mul k 1, Nat.one_mul, <- Nat.mul_assoc k p 400, <- hT]
   rw [g1]
   clear i1 g1
   have e1 : (s1 * q2).natAbs <= T * 10000000000000000 * 400 := by
    rw [Int.natAbs_mul]; exact Nat.mul_le_mul i1' (by omega)
   have e2 : (s2 * (q1 * u)).natAbs <= p * 10000000000000000 := by
    rw [Int.natAbs_mul]
    refine Nat.mul_le_mul i3 ?_
    rw [Int.natAbs_mul]
    exact Nat.le_trans (Nat.mul_le_mul (show q1.natAbs <= 10000000000 by omega) hv) (by decide)
   have e3 : (s1 * q2 + s2 * (q1 * u)).natAbs <= (s1 * q2).natAbs + (s2 * (q1 * u)).natAbs := Int.natAbs_add_le _ _
   refine ⟨by omega, ?_, ?_⟩
   ·have := Int.mul_pos (show 0 < s2 by omega) (show 0 < q2 by omega); omega
   ·rw [Int.natAbs_mul]; exact Nat.mul_le_mul i3 (by omega)
theorem sumP_bnd6 {v : Nat -> Int} {x : List Rt} (h1 : ∀ k, (v k).natAbs <= 1000000) (hx : ValB x) {k : Nat} (h6 : k <= 6) :
 (sumP v x k).1.natAbs <= 245760000000000000000000000000000 ∧ 1 <= (sumP v x k).2 ∧ (sumP v x k).2.natAbs <= 4096000000000000 := by
 obtain ⟨i1, i2, i3⟩ := sumP_bnd h1 hx k
 have hp : 400 ^ k <= 400 ^ 6 := Nat.pow_le_pow_right (by omega) h6
 have e : (400 : Nat) ^ 6 = 4096000000000000 := by decide
 rw [e] at hp
 refine ⟨?_, i2, Nat.le_trans i3 hp⟩
 have : k * 10000000000000000 * 400 ^ k <= 6 * 10000000000000000 * 4096000000000000 := Nat.mul_le_mul (Nat.mul_le_mul_right _ h6) hp
 omega
def colP (M : Mask) (q : Nat) (i : Nat) : Int := vec (M[i]?.getD []) q
def zKJ (M : Mask) (x : List Rt) (q : Nat) : Bool := decide ((sumP (colP M q) x M.length).1 <= (sumP (colP M q) x M.length).2 ∧ -(sumP (colP M q) x M.length).2 <= (sumP (colP M q) x M.length).1)
def zMZ (M : Mask) (x : List Rt) : Bool := (List.range (zAB M)).all fun q => zKJ M x q
theorem seesB_iff {M : Mask} {x : List Rt} : zMZ M x = true ↔ ∀ q, q < zAB M -> zKJ M x q = true := by
 unfold zMZ; rw [List.all_eq_true]; simp
end
section
theorem eq_floor {n d m e : Int} (hd : 0 < d) (he : 0 < e) (h : n * e = m * d) : n / d = m / e := by
 have h1 : n / d = (n * e) / (d * e) := (Int.mul_ediv_mul_of_pos_left n d he).symm
 have h2 : m / e = (m * d) / (e * d) := (Int.mul_ediv_mul_of_pos_left m e hd).symm
 rw [h1, h2, h, Int.mul_comm d e]
theorem eq_rest {n d m e : Int} (h : n / d = m / e) : n * e = m * d ↔ d * (m % e) = e * (n % d) := by
 have h1 := Int.emod_add_mul_ediv n d
 have h2 := Int.emod_add_mul_ediv m e
 obtain ⟨q, hq⟩ := exq (n / d)
 obtain ⟨a, ha⟩ := exq (n % d)
 obtain ⟨b, hb⟩ := exq (m % e)
 rw [<- h, <- hq, <- hb] at h2
 rw [<- hq, <- ha] at h1
 rw [<- ha, <- hb, <- h1, <- h2]
 constructor <;> intro h <;> grind
structure EqS (A : Prop) (n d m e : Int) : Prop where
 n0 : 0 <= n
 d0 : 0 <= d
 m0 : 0 <= m
 e0 : 0 <= e
 nd : d = 0 -> 0 < n
 me : e = 0 -> 0 < m
 iff : A ↔ n * e = m * d
theorem EqS.step {A : Prop} {n d m e : Int} (h : EqS A n d m e) (hd : 0 < d) (he : 0 < e) (hq : n / d = m / e) : EqS A d (n % d) e (m % e) := by
 have h1 := Int.emod_nonneg n (show d ≠ 0 by omega)
 have h2 := Int.emod_nonneg m (show e ≠ 0 by omega)
 exact ⟨by omega, h1, by omega, h2, fun _ => hd, fun _ => he, h.iff.trans (eq_rest hq)⟩
theorem EqS.part {A : Prop} {n d m e : Int} (h : EqS A n d m e) (hd : 0 < d) (he : 0 < e) (hq : n / d ≠ m / e) : ¬ A := fun ha => hq (eq_floor hd he (h.iff.1 ha))
theorem EqS.done {A : Prop} {n d m e : Int} (h : EqS A n d m e) (hz : d = 0 ∨ e = 0) : A ↔ d = e := by
 rw [h.iff]
 rcases hz with rfl | rfl
 ·have := h.nd rfl
  constructor
  ·intro hh
   have hh2 : n * e = 0 := by rw [hh]; simp
   rcases Int.mul_eq_zero.1 hh2 with h3 | h3
   ·omega
   ·exact h3.symm
  ·rintro rfl; simp
 ·have := h.me rfl
  constructor
  ·intro hh
   have hh2 : m * d = 0 := by rw [<- hh]; simp
   rcases Int.mul_eq_zero.1 hh2 with h3 | h3
   ·omega
   ·exact h3
  ·rintro rfl; simp
end
end Go.Proofs.YtlffndehhhpgjaaGreat

/- Walks and plain laws for LinMakesRow, part 7. -/
import Derived.Test.YtfipebkhomppmaaPkLinMakesRow6
namespace Go.Proofs.Ytfipebkhomppmaa
open Go.RowKit
set_option linter.unusedVariables false

theorem NatV.slice {w : World} {v : Value} {L : Nat} {N : Int} (h : NatV w v L N) : ∃ a n cap, v = .slice a n cap := by
  obtain ⟨a, n, cap, l, h1, _⟩ := h
  exact ⟨a, n, cap, h1⟩
def RatQ (w : World) (v : Value) (L : Nat) (s : Bool) (N D : Int) : Prop := ∃ a n c b m e, v = .agg #[.bool s, .slice a n c, .slice b m e] ∧ NatV w (.slice a n c) L N ∧ NatV w (.slice b m e) L D
theorem RatQ.below {w w' : World} {v : Value} {L : Nat} {s : Bool} {N D : Int} (h : RatQ w v L s N D) (hb : Below w.heap.size w w') : RatQ w' v L s N D := by
  obtain ⟨a, n, c, b, m, e, h1, h2, h3⟩ := h
  exact ⟨a, n, c, b, m, e, h1, h2.below hb, h3.below hb⟩
theorem RatQ.le {w : World} {v : Value} {L K : Nat} {s : Bool} {N D : Int} (h : RatQ w v L s N D) (hk : L ≤ K) : RatQ w v K s N D := by
  obtain ⟨a, n, c, b, m, e, h1, h2, h3⟩ := h
  exact ⟨a, n, c, b, m, e, h1, h2.le hk, h3.le hk⟩

theorem NatV.keeps3 {w : World} {v0 : Value} {L : Nat} {N : Int} {g : Nat} {u v z : Value} (h : NatV w v0 L N) (hg : ∃ c, w.heap[g]? = some (.cells c 113 (0, 0)) ∧ ∀ x : Int, ∀ o : Nat, c[o]? ≠ some (.int .i64 x)) : NatV (((w.setCell ⟨g, 0, none⟩ u).setCell ⟨g, 1, none⟩ v).setCell ⟨g, 2, none⟩ z) v0 L N := by
  obtain ⟨a, n, cap, l, h1, h2, h3, h4, h5⟩ := h
  refine ⟨a, n, cap, l, h1, h2, h3, fun j hj => ?_, h5⟩
  obtain ⟨b, o, e, hb, hc⟩ := h4 j hj
  refine ⟨b, o, e, by simpa using hb, ?_⟩
  have hne : b ≠ g := by
    rintro rfl
    obtain ⟨c, hc1, hc2⟩ := hg
    simp [World.cell?, hc1] at hc
    exact hc2 _ _ hc
  rw [World.cell?_setCell_far _ _ _ _ (fun h => hne h.symm), World.cell?_setCell_far _ _ _ _ (fun h => hne h.symm), World.cell?_setCell_far _ _ _ _ (fun h => hne h.symm)]
  exact hc

def plusQ (x y : Bool × Int × Int) : Bool × Int × Int :=
  if x.1 = y.1 then (x.1, x.2.1 * y.2.2 + y.2.1 * x.2.2, x.2.2 * y.2.2)
  else if y.2.1 * x.2.2 ≤ x.2.1 * y.2.2 then (x.1, x.2.1 * y.2.2 - y.2.1 * x.2.2, x.2.2 * y.2.2)
  else (y.1, y.2.1 * x.2.2 - x.2.1 * y.2.2, x.2.2 * y.2.2)

theorem cmpI_ge {V U : Int} : (0 ≤ cmpI V U) ↔ U ≤ V := by unfold cmpI; split <;> (try split) <;> omega

set_option maxRecDepth 100000 in
set_option maxHeartbeats 2000000 in
theorem rplus_c (w : World) (v u : Value) (L K : Nat) (s t : Bool) (N D M E : Int) (h : RatQ w v L s N D) (k : RatQ w u K t M E) (hL : L ≤ 100) (hK : K ≤ 100) :
    Calls Try.prog 145 #[v, u] w fun e w' => ∃ x, e = .returned x ∧ RatQ w' x (L + K + 1) (plusQ (s, N, D) (t, M, E)).1 (plusQ (s, N, D) (t, M, E)).2.1 (plusQ (s, N, D) (t, M, E)).2.2 ∧ Below w.heap.size w w' := by
  obtain ⟨na, nn, nc, da, dn, dc, rfl, hN, hD⟩ := h
  obtain ⟨ma, mn, mc, ea, en, ec, rfl, hM, hE⟩ := k
  obtain ⟨s0, hs⟩ : ∃ s, s = w.heap.size := ⟨_, rfl⟩
  obtain ⟨wa, hwa⟩ : ∃ wa, wa = ((w.alloc (.cells #[.bool s, .slice na nn nc, .slice da dn dc] 113)).alloc (.cells #[.bool t, .slice ma mn mc, .slice ea en ec] 113)).alloc (.cells #[.bool false, .slice none 0 0, .slice none 0 0] 113) := ⟨_, rfl⟩
  have hba : Below w.heap.size w wa := by rw [hwa]; exact (((Below.refl _ _).alloc (Nat.le_refl _) _).alloc (by simp) _).alloc (by simp; omega) _
  have q0 : wa.heap[s0 + 2]? = some (.cells #[.bool false, .slice none 0 0, .slice none 0 0] 113 (0, 0)) := by
    have := World.alloc_heap_new ((w.alloc (.cells #[.bool s, .slice na nn nc, .slice da dn dc] 113)).alloc (.cells #[.bool t, .slice ma mn mc, .slice ea en ec] 113)) (.cells #[.bool false, .slice none 0 0, .slice none 0 0] 113)
    rw [hwa, hs]
    simpa using this
  have hs1 : s0 + 2 < wa.heap.size := (Array.getElem?_eq_some_iff.1 q0).1
  have hc : ∀ o v, (#[Value.bool s, .slice na nn nc, .slice da dn dc] : Array Value)[o]? = some v → wa.cell? ⟨s0, o, none⟩ = some v := fun o v h => by
    rw [hwa, hs, World.cell?_alloc_past _ _ _ (by simp; omega), World.cell?_alloc_past _ _ _ (by simp), World.cell?_alloc_at _ _ _ _ rfl]; exact h
  have hc2 : ∀ o v, (#[Value.bool t, .slice ma mn mc, .slice ea en ec] : Array Value)[o]? = some v → wa.cell? ⟨s0 + 1, o, none⟩ = some v := fun o v h => by
    rw [hwa, hs, World.cell?_alloc_past _ _ _ (by simp), World.cell?_alloc_at _ _ _ _ (by simp)]; exact h
  have HS := hid (fun (Y : World) (hY : Below wa.heap.size wa Y) => show Y.cell? ⟨s0, 0, none⟩ = some (.bool s) ∧ Y.cell? ⟨s0, 1, none⟩ = some (.slice na nn nc) ∧ Y.cell? ⟨s0, 2, none⟩ = some (.slice da dn dc) ∧ Y.cell? ⟨s0 + 1, 0, none⟩ = some (.bool t) ∧ Y.cell? ⟨s0 + 1, 1, none⟩ = some (.slice ma mn mc) ∧ Y.cell? ⟨s0 + 1, 2, none⟩ = some (.slice ea en ec) from by
    have k0 : ∀ o, Y.cell? ⟨s0, o, none⟩ = wa.cell? ⟨s0, o, none⟩ := fun o => hY.cell (p := ⟨s0, o, none⟩) (by show s0 < _; omega)
    have k1 : ∀ o, Y.cell? ⟨s0 + 1, o, none⟩ = wa.cell? ⟨s0 + 1, o, none⟩ := fun o => hY.cell (p := ⟨s0 + 1, o, none⟩) (by show s0 + 1 < _; omega)
    exact ⟨(k0 0).trans (hc 0 _ rfl), (k0 1).trans (hc 1 _ rfl), (k0 2).trans (hc 2 _ rfl), (k1 0).trans (hc2 0 _ rfl), (k1 1).trans (hc2 1 _ rfl), (k1 2).trans (hc2 2 _ rfl)⟩)
  have HR := hid (fun (Y : World) (hY : Below wa.heap.size wa Y) => show Y.cell? ⟨s0 + 2, 0, none⟩ = some (.bool false) ∧ Y.cell? ⟨s0 + 2, 1, none⟩ = some (.slice none 0 0) ∧ Y.cell? ⟨s0 + 2, 2, none⟩ = some (.slice none 0 0) ∧ (∀ o, Y.frozen? ⟨s0 + 2, o, none⟩ = false) ∧ s0 + 2 < Y.heap.size from by
    have h1 := (hY.block (s0 + 2) hs1).trans q0
    exact ⟨by simp [World.cell?, h1], by simp [World.cell?, h1], by simp [World.cell?, h1], fun o => by simp [World.frozen?, h1], (Array.getElem?_eq_some_iff.1 h1).1⟩)
  have HFIN := hid (fun (Y : World) (hY : Below wa.heap.size wa Y) (x y z : Value) => show Below w.heap.size w (((Y.setCell ⟨s0 + 2, 0, none⟩ x).setCell ⟨s0 + 2, 1, none⟩ y).setCell ⟨s0 + 2, 2, none⟩ z) from
    below_set (below_set (below_set (chain hba hY) (by omega) 0 x) (by omega) 1 y) (by omega) 2 z)
  have HNN := hid (fun (Y : World) (hY : Below wa.heap.size wa Y) => And.intro (hN.below (chain hba hY)) (And.intro (hD.below (chain hba hY)) (And.intro (hM.below (chain hba hY)) (hE.below (chain hba hY)))))
  have HNG := hid (fun (Y : World) (hY : Below wa.heap.size wa Y) => show ∃ c, Y.heap[s0 + 2]? = some (.cells c 113 (0, 0)) ∧ ∀ x : Int, ∀ o : Nat, c[o]? ≠ some (.int .i64 x) from
    ⟨_, (hY.block (s0 + 2) hs1).trans q0, fun x o => by match o with | 0 => simp | 1 => simp | 2 => simp | o + 3 => simp⟩)
  clear hba q0 hs1 hc hc2 hN hD hM hE
  go_enter Try.func145, Try.ntmps145
  go_wp2_with fail
  rw [← hs, ← hwa]
  clear hs hwa
  refine plain_region (fun j' X => wAll j' = true → X.cell? ⟨s0, 0, none⟩ = some (.bool s) ∧ X.cell? ⟨s0, 1, none⟩ = some (.slice na nn nc) ∧ X.cell? ⟨s0, 2, none⟩ = some (.slice da dn dc) ∧ X.cell? ⟨s0 + 1, 0, none⟩ = some (.bool t) ∧ X.cell? ⟨s0 + 1, 1, none⟩ = some (.slice ma mn mc) ∧ X.cell? ⟨s0 + 1, 2, none⟩ = some (.slice ea en ec)) (by kernel_rfl) ?_
  have hbd : Below wa.heap.size wa wa.drew := (Below.refl _ _).drew
  generalize wa.drew = wd at hbd ⊢
  refine AnyT.takeD (i := 0) (v := .pointer (some ⟨s0, 1, none⟩)) rfl rfl (by kernel_rfl) (by kernel_rfl) (by kernel_rfl) (by first | exact (fun _ _ _ h => h) | exact (fun _ _ _ h => absurd h.1 (by simp))) (by kernel_rfl) (by rfl) (by rintro w' ⟨y1, y2, y3, y4, y5, y6⟩; go_simp) (HS.out _ hbd) ?_; go_frame
  refine AnyT.takeD (i := 1) (v := .slice na nn nc) rfl rfl (by kernel_rfl) (by kernel_rfl) (by kernel_rfl) (by first | exact (fun _ _ _ h => h) | exact (fun _ _ _ h => absurd h.1 (by simp))) (by kernel_rfl) (by rfl) (by rintro w' ⟨y1, y2, y3, y4, y5, y6⟩; go_simp) (HS.out _ hbd) ?_; go_frame
  refine AnyT.takeD (i := 2) (v := .pointer (some ⟨s0 + 1, 2, none⟩)) rfl rfl (by kernel_rfl) (by kernel_rfl) (by kernel_rfl) (by first | exact (fun _ _ _ h => h) | exact (fun _ _ _ h => absurd h.1 (by simp))) (by kernel_rfl) (by rfl) (by rintro w' ⟨y1, y2, y3, y4, y5, y6⟩; go_simp) (HS.out _ hbd) ?_; go_frame
  refine AnyT.takeD (i := 3) (v := .slice ea en ec) rfl rfl (by kernel_rfl) (by kernel_rfl) (by kernel_rfl) (by first | exact (fun _ _ _ h => h) | exact (fun _ _ _ h => absurd h.1 (by simp))) (by kernel_rfl) (by rfl) (by rintro w' ⟨y1, y2, y3, y4, y5, y6⟩; go_simp) (HS.out _ hbd) ?_; go_frame
  refine AnyT.takeD (i := 5) (v := .pointer (some ⟨s0 + 1, 1, none⟩)) rfl rfl (by kernel_rfl) (by kernel_rfl) (by kernel_rfl) (by first | exact (fun _ _ _ h => h) | exact (fun _ _ _ h => absurd h.1 (by simp))) (by kernel_rfl) (by rfl) (by rintro w' ⟨y1, y2, y3, y4, y5, y6⟩; go_simp) (HS.out _ hbd) ?_; go_frame
  refine AnyT.takeD (i := 6) (v := .slice ma mn mc) rfl rfl (by kernel_rfl) (by kernel_rfl) (by kernel_rfl) (by first | exact (fun _ _ _ h => h) | exact (fun _ _ _ h => absurd h.1 (by simp))) (by kernel_rfl) (by rfl) (by rintro w' ⟨y1, y2, y3, y4, y5, y6⟩; go_simp) (HS.out _ hbd) ?_; go_frame
  refine AnyT.takeD (i := 7) (v := .pointer (some ⟨s0, 2, none⟩)) rfl rfl (by kernel_rfl) (by kernel_rfl) (by kernel_rfl) (by first | exact (fun _ _ _ h => h) | exact (fun _ _ _ h => absurd h.1 (by simp))) (by kernel_rfl) (by rfl) (by rintro w' ⟨y1, y2, y3, y4, y5, y6⟩; go_simp) (HS.out _ hbd) ?_; go_frame
  refine AnyT.takeD (i := 8) (v := .slice da dn dc) rfl rfl (by kernel_rfl) (by kernel_rfl) (by kernel_rfl) (by first | exact (fun _ _ _ h => h) | exact (fun _ _ _ h => absurd h.1 (by simp))) (by kernel_rfl) (by rfl) (by rintro w' ⟨y1, y2, y3, y4, y5, y6⟩; go_simp) (HS.out _ hbd) ?_; go_frame
  refine AnyT.takeD (i := 10) (v := .pointer (some ⟨s0, 2, none⟩)) rfl rfl (by kernel_rfl) (by kernel_rfl) (by kernel_rfl) (by first | exact (fun _ _ _ h => h) | exact (fun _ _ _ h => absurd h.1 (by simp))) (by kernel_rfl) (by rfl) (by rintro w' ⟨y1, y2, y3, y4, y5, y6⟩; go_simp) (HS.out _ hbd) ?_; go_frame
  refine AnyT.takeD (i := 11) (v := .slice da dn dc) rfl rfl (by kernel_rfl) (by kernel_rfl) (by kernel_rfl) (by first | exact (fun _ _ _ h => h) | exact (fun _ _ _ h => absurd h.1 (by simp))) (by kernel_rfl) (by rfl) (by rintro w' ⟨y1, y2, y3, y4, y5, y6⟩; go_simp) (HS.out _ hbd) ?_; go_frame
  refine AnyT.takeD (i := 12) (v := .pointer (some ⟨s0 + 1, 2, none⟩)) rfl rfl (by kernel_rfl) (by kernel_rfl) (by kernel_rfl) (by first | exact (fun _ _ _ h => h) | exact (fun _ _ _ h => absurd h.1 (by simp))) (by kernel_rfl) (by rfl) (by rintro w' ⟨y1, y2, y3, y4, y5, y6⟩; go_simp) (HS.out _ hbd) ?_; go_frame
  refine AnyT.takeD (i := 13) (v := .slice ea en ec) rfl rfl (by kernel_rfl) (by kernel_rfl) (by kernel_rfl) (by first | exact (fun _ _ _ h => h) | exact (fun _ _ _ h => absurd h.1 (by simp))) (by kernel_rfl) (by rfl) (by rintro w' ⟨y1, y2, y3, y4, y5, y6⟩; go_simp) (HS.out _ hbd) ?_; go_frame
  refine AnyT.next (i := 4) (by kernel_rfl) rfl (wpOp_of_list rfl ?_)
  go_wp2_with (go_at_call 163; refine (times_c _ _ _ L K _ _ (HNN.out _ hbd).1 (HNN.out _ hbd).2.2.2 (by omega) (by omega)).mono ?_; rintro e w1 ⟨vw1, rfl, hvw1, hbw1⟩; refine Stop.of ?_)
  refine Stop.go ?_
  obtain ⟨aw1, nw1, cw1, rfl⟩ := hvw1.slice
  have HVw1 := hid hvw1
  have HB1 := hid (chain hbd hbw1)
  have HBXw1 := hid hbw1
  clear hvw1 hbw1
  go_wp2
  refine ⟨fun _ => HS.out _ HB1.out, ?_⟩
  refine AnyT.next (i := 9) (by kernel_rfl) rfl (wpOp_of_list rfl ?_)
  go_wp2_with (go_at_call 163; refine (times_c _ _ _ K L _ _ (HNN.out _ HB1.out).2.2.1 (HNN.out _ HB1.out).2.1 (by omega) (by omega)).mono ?_; rintro e w2 ⟨vw2, rfl, hvw2, hbw2⟩; refine Stop.of ?_)
  refine Stop.go ?_
  obtain ⟨aw2, nw2, cw2, rfl⟩ := hvw2.slice
  have HVw2 := hid hvw2
  have HB2 := hid (chain HB1.out hbw2)
  have HBXw2 := hid hbw2
  clear hvw2 hbw2
  go_wp2
  refine ⟨fun _ => HS.out _ HB2.out, ?_⟩
  refine AnyT.next (i := 14) (by kernel_rfl) rfl (wpOp_of_list rfl ?_)
  go_wp2_with (go_at_call 163; refine (times_c _ _ _ L K _ _ (HNN.out _ HB2.out).2.1 (HNN.out _ HB2.out).2.2.2 (by omega) (by omega)).mono ?_; rintro e w3 ⟨vw3, rfl, hvw3, hbw3⟩; refine Stop.of ?_)
  refine Stop.go ?_
  obtain ⟨aw3, nw3, cw3, rfl⟩ := hvw3.slice
  have HVw3 := hid hvw3
  have HB3 := hid (chain HB2.out hbw3)
  have HBXw3 := hid hbw3
  clear hvw3 hbw3
  go_wp2
  refine ⟨fun _ => HS.out _ HB3.out, ?_⟩
  refine AnyT.takeD (i := 15) (v := .slice aw1 nw1 cw1) rfl rfl (by kernel_rfl) (by kernel_rfl) (by kernel_rfl) (by first | exact (fun _ _ _ h => h) | exact (fun _ _ _ h => absurd h.1 (by simp))) (by kernel_rfl) (by rfl) (by rintro w' ⟨y1, y2, y3, y4, y5, y6⟩; go_simp) (HS.out _ HB3.out) ?_; go_frame
  refine AnyT.takeD (i := 16) (v := .slice aw2 nw2 cw2) rfl rfl (by kernel_rfl) (by kernel_rfl) (by kernel_rfl) (by first | exact (fun _ _ _ h => h) | exact (fun _ _ _ h => absurd h.1 (by simp))) (by kernel_rfl) (by rfl) (by rintro w' ⟨y1, y2, y3, y4, y5, y6⟩; go_simp) (HS.out _ HB3.out) ?_; go_frame
  refine AnyT.takeD (i := 17) (v := .slice aw3 nw3 cw3) rfl rfl (by kernel_rfl) (by kernel_rfl) (by kernel_rfl) (by first | exact (fun _ _ _ h => h) | exact (fun _ _ _ h => absurd h.1 (by simp))) (by kernel_rfl) (by rfl) (by rintro w' ⟨y1, y2, y3, y4, y5, y6⟩; go_simp) (HS.out _ HB3.out) ?_; go_frame
  refine AnyT.done (by kernel_rfl) ?_ _
  have HNE := hid ((HVw1.out.below HBXw2.out).below HBXw3.out)
  have HMD := hid (((HVw2.out.below HBXw3.out)).le (show K + L ≤ L + K by omega))
  have HDE := hid HVw3.out
  obtain ⟨y1, y2, y3, y4, y5, y6⟩ := HS.out _ HB3.out
  clear HVw1 HVw2 HVw3 HBXw2 HBXw1 HBXw3 HB1 HB2 hbd
  have HB := hid HB3.out
  clear HB3 y1 y2 y3 y4 y5 y6
  by_cases hst : s = t
  · subst hst
    have HQ := hid (show plusQ (s, N, D) (s, M, E) = (s, N * E + M * D, D * E) from if_pos rfl)
    have hsb : (s == s) = true := by simp
    obtain ⟨y1, y2, y3, y4, y5, y6⟩ := HS.out _ HB.out
    go_wp2
    refine plain_region (fun j' X => decide (j' ≤ 6) = true → X.cell? ⟨s0, 0, none⟩ = some (.bool s)) (by kernel_rfl) ?_
    obtain ⟨wq, hwq⟩ : ∃ wq, wq = w3.drew := ⟨_, rfl⟩
    have hbq : Below wa.heap.size wa wq := by rw [hwq]; exact HB.out.drew
    have hb0 : Below w3.heap.size w3 wq := by rw [hwq]; exact (Below.refl _ _).drew
    rw [← hwq]
    clear hwq
    refine AnyT.takeD (i := 0) (v := .pointer (some ⟨s0, 0, none⟩)) rfl rfl (by kernel_rfl) (by kernel_rfl) (by kernel_rfl) (by first | exact (fun _ _ _ h => h) | exact (fun _ _ _ h => absurd h.1 (by simp))) (by kernel_rfl) (by rfl) (by rintro w' y1; go_simp) ((HS.out _ hbq).1) ?_; go_frame
    refine AnyT.takeD (i := 1) (v := .bool s) rfl rfl (by kernel_rfl) (by kernel_rfl) (by kernel_rfl) (by first | exact (fun _ _ _ h => h) | exact (fun _ _ _ h => absurd h.1 (by simp))) (by kernel_rfl) (by rfl) (by rintro w' y1; go_simp) ((HS.out _ hbq).1) ?_; go_frame
    refine AnyT.takeD (i := 2) (v := .slice aw1 nw1 cw1) rfl rfl (by kernel_rfl) (by kernel_rfl) (by kernel_rfl) (by first | exact (fun _ _ _ h => h) | exact (fun _ _ _ h => absurd h.1 (by simp))) (by kernel_rfl) (by rfl) (by rintro w' y1; go_simp) ((HS.out _ hbq).1) ?_; go_frame
    refine AnyT.takeD (i := 3) (v := .slice aw2 nw2 cw2) rfl rfl (by kernel_rfl) (by kernel_rfl) (by kernel_rfl) (by first | exact (fun _ _ _ h => h) | exact (fun _ _ _ h => absurd h.1 (by simp))) (by kernel_rfl) (by rfl) (by rintro w' y1; go_simp) ((HS.out _ hbq).1) ?_; go_frame
    refine AnyT.takeD (i := 5) (v := .slice aw3 nw3 cw3) rfl rfl (by kernel_rfl) (by kernel_rfl) (by kernel_rfl) (by first | exact (fun _ _ _ h => h) | exact (fun _ _ _ h => absurd h.1 (by simp))) (by kernel_rfl) (by rfl) (by rintro w' y1; go_simp) ((HS.out _ hbq).1) ?_; go_frame
    refine AnyT.next (i := 4) (by kernel_rfl) rfl (wpOp_of_list rfl ?_)
    go_wp2_with (go_at_call 164; refine (plus_c _ _ _ (L + K) (L + K) _ _ (HNE.out.below hb0) (HMD.out.below hb0) (by omega) (by omega)).mono ?_; rintro e w5 ⟨v5, rfl, hv5, hb5⟩; refine Stop.of ?_)
    refine Stop.go ?_
    obtain ⟨a5, n5, c5, rfl⟩ := hv5.slice
    have HV5 := hid hv5
    have HB5 := hid (chain hbq hb5)
    have HDE5 := hid ((HDE.out.below hb0).below hb5)
    obtain ⟨x0, x1, x2, hfz, hlt⟩ := HR.out _ HB5.out
    have f0 := hfz 0
    have f1 := hfz 1
    have f2 := hfz 2
    have HFI := hid (HFIN.out _ HB5.out (.bool s) (.slice a5 n5 c5) (.slice aw3 nw3 cw3))
    have HKN := hid (hv5.keeps3 (g := s0 + 2) (u := .bool s) (v := .slice a5 n5 c5) (z := .slice aw3 nw3 cw3) (HNG.out _ HB5.out))
    have HKD := hid (HDE5.out.keeps3 (g := s0 + 2) (u := .bool s) (v := .slice a5 n5 c5) (z := .slice aw3 nw3 cw3) (HNG.out _ HB5.out))
    clear hv5 hb5 hfz hb0
    go_wp2
    refine ⟨fun _ => (HS.out _ HB5.out).1, ?_⟩
    refine AnyT.takeD (i := 6) (v := .agg #[.bool s, .slice a5 n5 c5, .slice aw3 nw3 cw3]) rfl rfl (by kernel_rfl) (by kernel_rfl) (by kernel_rfl) (by first | exact (fun _ _ _ h => h) | exact (fun _ _ _ h => absurd h.1 (by simp))) (by kernel_rfl) (by rfl) (by rintro w' y1; go_simp) ((HS.out _ HB5.out).1) ?_; go_frame
    refine AnyT.next (i := 7) (by kernel_rfl) rfl (wpOp_of_list rfl ?_)
    go_wp2
    refine ⟨fun h => absurd h (by decide), ?_⟩
    refine AnyT.done (by kernel_rfl) ?_ _
    go_wp2
    refine bodyPost_ret (v := .agg #[.bool s, .slice a5 n5 c5, .slice aw3 nw3 cw3]) ?_ rfl ⟨_, rfl, ?_, HFI.out⟩
    · simp [results, Try.results145, go_sem, x0, x1, x2, f0, f1, f2, hlt]
    · rw [HQ.out]; exact ⟨_, _, _, _, _, _, rfl, HKN.out.le (by omega), HKD.out.le (by omega)⟩
  · have hsb : (s == t) = false := by simpa using hst
    have HOR := hid (order_c w3 _ _ (L + K) (L + K) _ _ HNE.out HMD.out (by omega) (by omega))
    obtain ⟨y1, y2, y3, y4, y5, y6⟩ := HS.out _ HB.out
    obtain ⟨cv, hcv⟩ : ∃ c, c = cmpI (N * E) (M * D) := ⟨_, rfl⟩
    rw [← hcv] at HOR
    have hge : 0 ≤ cv ↔ M * D ≤ N * E := by rw [hcv]; exact cmpI_ge
    have HGE := hid hge
    have HST := hid hst
    clear hcv hge hst
    go_wp2_with (go_at_call 165; refine HOR.out.mono ?_; rintro e w4 ⟨rfl, hb4⟩; refine Stop.of ?_)
    refine Stop.go ?_
    have HNE4 := hid (HNE.out.below hb4)
    have HMD4 := hid (HMD.out.below hb4)
    have HDE4 := hid (HDE.out.below hb4)
    have HB4 := hid (chain HB.out hb4)
    clear HNE HMD HDE HB HOR hb4
    have HB := HB4
    have HDE := HDE4
    clear HB4 HDE4
    obtain ⟨y1, y2, y3, y4, y5, y6⟩ := HS.out _ HB.out
    by_cases hcc : 0 ≤ cv
    · have hle := HGE.out.1 hcc
      have HQ := hid (show plusQ (s, N, D) (t, M, E) = (s, N * E - M * D, D * E) from by unfold plusQ; rw [if_neg HST.out, if_pos hle])
      have HLE := hid hle
      clear hle
      go_wp2
      refine plain_region (fun j' X => decide (j' ≤ 6) = true → X.cell? ⟨s0, 0, none⟩ = some (.bool s)) (by kernel_rfl) ?_
      obtain ⟨wq, hwq⟩ : ∃ wq, wq = w4.drew := ⟨_, rfl⟩
      have hbq : Below wa.heap.size wa wq := by rw [hwq]; exact HB.out.drew
      have hb0 : Below w4.heap.size w4 wq := by rw [hwq]; exact (Below.refl _ _).drew
      rw [← hwq]
      clear hwq
      refine AnyT.takeD (i := 0) (v := .pointer (some ⟨s0, 0, none⟩)) rfl rfl (by kernel_rfl) (by kernel_rfl) (by kernel_rfl) (by first | exact (fun _ _ _ h => h) | exact (fun _ _ _ h => absurd h.1 (by simp))) (by kernel_rfl) (by rfl) (by rintro w' y1; go_simp) ((HS.out _ hbq).1) ?_; go_frame
      refine AnyT.takeD (i := 1) (v := .bool s) rfl rfl (by kernel_rfl) (by kernel_rfl) (by kernel_rfl) (by first | exact (fun _ _ _ h => h) | exact (fun _ _ _ h => absurd h.1 (by simp))) (by kernel_rfl) (by rfl) (by rintro w' y1; go_simp) ((HS.out _ hbq).1) ?_; go_frame
      refine AnyT.takeD (i := 2) (v := .slice aw1 nw1 cw1) rfl rfl (by kernel_rfl) (by kernel_rfl) (by kernel_rfl) (by first | exact (fun _ _ _ h => h) | exact (fun _ _ _ h => absurd h.1 (by simp))) (by kernel_rfl) (by rfl) (by rintro w' y1; go_simp) ((HS.out _ hbq).1) ?_; go_frame
      refine AnyT.takeD (i := 3) (v := .slice aw2 nw2 cw2) rfl rfl (by kernel_rfl) (by kernel_rfl) (by kernel_rfl) (by first | exact (fun _ _ _ h => h) | exact (fun _ _ _ h => absurd h.1 (by simp))) (by kernel_rfl) (by rfl) (by rintro w' y1; go_simp) ((HS.out _ hbq).1) ?_; go_frame
      refine AnyT.takeD (i := 5) (v := .slice aw3 nw3 cw3) rfl rfl (by kernel_rfl) (by kernel_rfl) (by kernel_rfl) (by first | exact (fun _ _ _ h => h) | exact (fun _ _ _ h => absurd h.1 (by simp))) (by kernel_rfl) (by rfl) (by rintro w' y1; go_simp) ((HS.out _ hbq).1) ?_; go_frame
      refine AnyT.next (i := 4) (by kernel_rfl) rfl (wpOp_of_list rfl ?_)
      go_wp2_with (go_at_call 166; refine (minus_c _ _ _ (L + K) (L + K) _ _ (HNE4.out.below hb0) (HMD4.out.below hb0) (by omega) (by omega) HLE.out).mono ?_; rintro e w5 ⟨v5, rfl, hv5, hb5⟩; refine Stop.of ?_)
      refine Stop.go ?_
      obtain ⟨a5, n5, c5, rfl⟩ := hv5.slice
      have HV5 := hid hv5
      have HB5 := hid (chain hbq hb5)
      have HDE5 := hid ((HDE.out.below hb0).below hb5)
      obtain ⟨x0, x1, x2, hfz, hlt⟩ := HR.out _ HB5.out
      have f0 := hfz 0
      have f1 := hfz 1
      have f2 := hfz 2
      have HFI := hid (HFIN.out _ HB5.out (.bool s) (.slice a5 n5 c5) (.slice aw3 nw3 cw3))
      have HKN := hid (hv5.keeps3 (g := s0 + 2) (u := .bool s) (v := .slice a5 n5 c5) (z := .slice aw3 nw3 cw3) (HNG.out _ HB5.out))
      have HKD := hid (HDE5.out.keeps3 (g := s0 + 2) (u := .bool s) (v := .slice a5 n5 c5) (z := .slice aw3 nw3 cw3) (HNG.out _ HB5.out))
      clear hv5 hb5 hfz hb0
      go_wp2
      refine ⟨fun _ => (HS.out _ HB5.out).1, ?_⟩
      refine AnyT.takeD (i := 6) (v := .agg #[.bool s, .slice a5 n5 c5, .slice aw3 nw3 cw3]) rfl rfl (by kernel_rfl) (by kernel_rfl) (by kernel_rfl) (by first | exact (fun _ _ _ h => h) | exact (fun _ _ _ h => absurd h.1 (by simp))) (by kernel_rfl) (by rfl) (by rintro w' y1; go_simp) ((HS.out _ HB5.out).1) ?_; go_frame
      refine AnyT.next (i := 7) (by kernel_rfl) rfl (wpOp_of_list rfl ?_)
      go_wp2
      refine ⟨fun h => absurd h (by decide), ?_⟩
      refine AnyT.done (by kernel_rfl) ?_ _
      go_wp2
      refine bodyPost_ret (v := .agg #[.bool s, .slice a5 n5 c5, .slice aw3 nw3 cw3]) ?_ rfl ⟨_, rfl, ?_, HFI.out⟩
      · simp [results, Try.results145, go_sem, x0, x1, x2, f0, f1, f2, hlt]
      · rw [HQ.out]; exact ⟨_, _, _, _, _, _, rfl, HKN.out.le (by omega), HKD.out.le (by omega)⟩
    · have hle : ¬ M * D ≤ N * E := fun h => hcc (HGE.out.2 h)
      have HQ := hid (show plusQ (s, N, D) (t, M, E) = (t, M * D - N * E, D * E) from by unfold plusQ; rw [if_neg HST.out, if_neg hle])
      have HLE := hid hle
      clear hle
      go_wp2
      refine plain_region (fun j' X => decide (j' ≤ 6) = true → X.cell? ⟨s0 + 1, 0, none⟩ = some (.bool t)) (by kernel_rfl) ?_
      obtain ⟨wq, hwq⟩ : ∃ wq, wq = w4.drew := ⟨_, rfl⟩
      have hbq : Below wa.heap.size wa wq := by rw [hwq]; exact HB.out.drew
      have hb0 : Below w4.heap.size w4 wq := by rw [hwq]; exact (Below.refl _ _).drew
      rw [← hwq]
      clear hwq
      refine AnyT.takeD (i := 0) (v := .pointer (some ⟨s0 + 1, 0, none⟩)) rfl rfl (by kernel_rfl) (by kernel_rfl) (by kernel_rfl) (by first | exact (fun _ _ _ h => h) | exact (fun _ _ _ h => absurd h.1 (by simp))) (by kernel_rfl) (by rfl) (by rintro w' y1; go_simp) ((HS.out _ hbq).2.2.2.1) ?_; go_frame
      refine AnyT.takeD (i := 1) (v := .bool t) rfl rfl (by kernel_rfl) (by kernel_rfl) (by kernel_rfl) (by first | exact (fun _ _ _ h => h) | exact (fun _ _ _ h => absurd h.1 (by simp))) (by kernel_rfl) (by rfl) (by rintro w' y1; go_simp) ((HS.out _ hbq).2.2.2.1) ?_; go_frame
      refine AnyT.takeD (i := 2) (v := .slice aw2 nw2 cw2) rfl rfl (by kernel_rfl) (by kernel_rfl) (by kernel_rfl) (by first | exact (fun _ _ _ h => h) | exact (fun _ _ _ h => absurd h.1 (by simp))) (by kernel_rfl) (by rfl) (by rintro w' y1; go_simp) ((HS.out _ hbq).2.2.2.1) ?_; go_frame
      refine AnyT.takeD (i := 3) (v := .slice aw1 nw1 cw1) rfl rfl (by kernel_rfl) (by kernel_rfl) (by kernel_rfl) (by first | exact (fun _ _ _ h => h) | exact (fun _ _ _ h => absurd h.1 (by simp))) (by kernel_rfl) (by rfl) (by rintro w' y1; go_simp) ((HS.out _ hbq).2.2.2.1) ?_; go_frame
      refine AnyT.takeD (i := 5) (v := .slice aw3 nw3 cw3) rfl rfl (by kernel_rfl) (by kernel_rfl) (by kernel_rfl) (by first | exact (fun _ _ _ h => h) | exact (fun _ _ _ h => absurd h.1 (by simp))) (by kernel_rfl) (by rfl) (by rintro w' y1; go_simp) ((HS.out _ hbq).2.2.2.1) ?_; go_frame
      refine AnyT.next (i := 4) (by kernel_rfl) rfl (wpOp_of_list rfl ?_)
      go_wp2_with (go_at_call 166; refine (minus_c _ _ _ (L + K) (L + K) _ _ (HMD4.out.below hb0) (HNE4.out.below hb0) (by omega) (by omega) (by have := HLE.out; omega)).mono ?_; rintro e w5 ⟨v5, rfl, hv5, hb5⟩; refine Stop.of ?_)
      refine Stop.go ?_
      obtain ⟨a5, n5, c5, rfl⟩ := hv5.slice
      have HV5 := hid hv5
      have HB5 := hid (chain hbq hb5)
      have HDE5 := hid ((HDE.out.below hb0).below hb5)
      obtain ⟨x0, x1, x2, hfz, hlt⟩ := HR.out _ HB5.out
      have f0 := hfz 0
      have f1 := hfz 1
      have f2 := hfz 2
      have HFI := hid (HFIN.out _ HB5.out (.bool t) (.slice a5 n5 c5) (.slice aw3 nw3 cw3))
      have HKN := hid (hv5.keeps3 (g := s0 + 2) (u := .bool t) (v := .slice a5 n5 c5) (z := .slice aw3 nw3 cw3) (HNG.out _ HB5.out))
      have HKD := hid (HDE5.out.keeps3 (g := s0 + 2) (u := .bool t) (v := .slice a5 n5 c5) (z := .slice aw3 nw3 cw3) (HNG.out _ HB5.out))
      clear hv5 hb5 hfz hb0
      go_wp2
      refine ⟨fun _ => (HS.out _ HB5.out).2.2.2.1, ?_⟩
      refine AnyT.takeD (i := 6) (v := .agg #[.bool t, .slice a5 n5 c5, .slice aw3 nw3 cw3]) rfl rfl (by kernel_rfl) (by kernel_rfl) (by kernel_rfl) (by first | exact (fun _ _ _ h => h) | exact (fun _ _ _ h => absurd h.1 (by simp))) (by kernel_rfl) (by rfl) (by rintro w' y1; go_simp) ((HS.out _ HB5.out).2.2.2.1) ?_; go_frame
      refine AnyT.next (i := 7) (by kernel_rfl) rfl (wpOp_of_list rfl ?_)
      go_wp2
      refine ⟨fun h => absurd h (by decide), ?_⟩
      refine AnyT.done (by kernel_rfl) ?_ _
      go_wp2
      refine bodyPost_ret (v := .agg #[.bool t, .slice a5 n5 c5, .slice aw3 nw3 cw3]) ?_ rfl ⟨_, rfl, ?_, HFI.out⟩
      · simp [results, Try.results145, go_sem, x0, x1, x2, f0, f1, f2, hlt]
      · rw [HQ.out]; exact ⟨_, _, _, _, _, _, rfl, HKN.out.le (by omega), HKD.out.le (by omega)⟩
end Go.Proofs.Ytfipebkhomppmaa

namespace Go.Proofs.Ytfipebkhomppmaa
open Go.RowKit
set_option linter.unusedVariables false

set_option maxRecDepth 100000 in
set_option maxHeartbeats 2000000 in
theorem exact_c (w : World) (N D : Int) (hN : -4611686018427387904 ≤ N ∧ N ≤ 4611686018427387904) (hD : 0 ≤ D ∧ D ≤ 4611686018427387904) :
    Calls Try.prog 147 #[.agg #[.int .i64 N, .int .i64 D]] w fun e w' => ∃ x, e = .returned x ∧ RatQ w' x 3 (decide (N < 0)) (N.natAbs : Nat) D ∧ Below w.heap.size w w' := by
  obtain ⟨s0, hs⟩ : ∃ s, s = w.heap.size := ⟨_, rfl⟩
  obtain ⟨wa, hwa⟩ : ∃ wa, wa = (w.alloc (.cells #[.int .i64 N, .int .i64 D] 46)).alloc (.cells #[.bool false, .slice none 0 0, .slice none 0 0] 113) := ⟨_, rfl⟩
  have hba : Below w.heap.size w wa := by rw [hwa]; exact ((Below.refl _ _).alloc (Nat.le_refl _) _).alloc (by simp) _
  have q0 : wa.heap[s0 + 1]? = some (.cells #[.bool false, .slice none 0 0, .slice none 0 0] 113 (0, 0)) := by
    have := World.alloc_heap_new (w.alloc (.cells #[.int .i64 N, .int .i64 D] 46)) (.cells #[.bool false, .slice none 0 0, .slice none 0 0] 113)
    rw [hwa, hs]
    simpa using this
  have hs1 : s0 + 1 < wa.heap.size := (Array.getElem?_eq_some_iff.1 q0).1
  have hc : ∀ o v, (#[Value.int .i64 N, .int .i64 D] : Array Value)[o]? = some v → wa.cell? ⟨s0, o, none⟩ = some v := fun o v h => by
    rw [hwa, hs, World.cell?_alloc_past _ _ _ (by simp), World.cell?_alloc_at _ _ _ _ rfl]; exact h
  have HS := hid (fun (Y : World) (hY : Below wa.heap.size wa Y) => show Y.cell? ⟨s0, 0, none⟩ = some (.int .i64 N) ∧ Y.cell? ⟨s0, 1, none⟩ = some (.int .i64 D) from by
    have k0 : ∀ o, Y.cell? ⟨s0, o, none⟩ = wa.cell? ⟨s0, o, none⟩ := fun o => hY.cell (p := ⟨s0, o, none⟩) (by show s0 < _; omega)
    exact ⟨(k0 0).trans (hc 0 _ rfl), (k0 1).trans (hc 1 _ rfl)⟩)
  have HR := hid (fun (Y : World) (hY : Below wa.heap.size wa Y) => show Y.cell? ⟨s0 + 1, 0, none⟩ = some (.bool false) ∧ Y.cell? ⟨s0 + 1, 1, none⟩ = some (.slice none 0 0) ∧ Y.cell? ⟨s0 + 1, 2, none⟩ = some (.slice none 0 0) ∧ (∀ o, Y.frozen? ⟨s0 + 1, o, none⟩ = false) ∧ s0 + 1 < Y.heap.size from by
    have h1 := (hY.block (s0 + 1) hs1).trans q0
    exact ⟨by simp [World.cell?, h1], by simp [World.cell?, h1], by simp [World.cell?, h1], fun o => by simp [World.frozen?, h1], (Array.getElem?_eq_some_iff.1 h1).1⟩)
  have HFIN := hid (fun (Y : World) (hY : Below wa.heap.size wa Y) (x y z : Value) => show Below w.heap.size w (((Y.setCell ⟨s0 + 1, 0, none⟩ x).setCell ⟨s0 + 1, 1, none⟩ y).setCell ⟨s0 + 1, 2, none⟩ z) from
    below_set (below_set (below_set (chain hba hY) (by omega) 0 x) (by omega) 1 y) (by omega) 2 z)
  have HNG := hid (fun (Y : World) (hY : Below wa.heap.size wa Y) => show ∃ c, Y.heap[s0 + 1]? = some (.cells c 113 (0, 0)) ∧ ∀ x : Int, ∀ o : Nat, c[o]? ≠ some (.int .i64 x) from
    ⟨_, (hY.block (s0 + 1) hs1).trans q0, fun x o => by match o with | 0 => simp | 1 => simp | 2 => simp | o + 3 => simp⟩)
  obtain ⟨b, hb⟩ : ∃ b, b = decide (N < 0) := ⟨_, rfl⟩
  obtain ⟨m, hm⟩ : ∃ m : Int, m = (N.natAbs : Nat) := ⟨_, rfl⟩
  rw [← hb, ← hm]
  have hb2 := hb.symm
  have HM1 := hid (fun X => natOf_c X m (by omega) (by omega))
  have HM2 := hid (fun X => natOf_c X D hD.1 (by omega))
  have hng : IntKind.i64.wrap (-N) = -N := IntWalk.i64_in _ (by omega)
  have hmx : (if -N ≤ N then N else -N) = m := by split <;> omega
  have hmx2 : (if N ≤ -N then -N else N) = m := by split <;> omega
  have hmx3 : (if N < -N then -N else N) = m := by split <;> omega
  clear hba q0 hs1 hc hb hm
  go_enter Try.func147, Try.ntmps147
  go_wp2_with fail
  rw [← hs, ← hwa]
  clear hs hwa
  refine plain_region (fun j' X => decide (j' ≤ 13) = true → X.cell? ⟨s0, 0, none⟩ = some (.int .i64 N) ∧ X.cell? ⟨s0, 1, none⟩ = some (.int .i64 D)) (by kernel_rfl) ?_
  have hbd : Below wa.heap.size wa wa.drew := (Below.refl _ _).drew
  generalize wa.drew = wd at hbd ⊢
  refine AnyT.takeD (i := 0) (v := .pointer (some ⟨s0, 0, none⟩)) rfl rfl (by kernel_rfl) (by kernel_rfl) (by kernel_rfl) (by first | exact (fun _ _ _ h => h) | exact (fun _ _ _ h => absurd h.1 (by simp))) (by kernel_rfl) (by rfl) (by rintro w' ⟨y1, y2⟩; go_simp) (HS.out _ hbd) ?_; go_frame
  refine AnyT.takeD (i := 1) (v := .int .i64 N) rfl rfl (by kernel_rfl) (by kernel_rfl) (by kernel_rfl) (by first | exact (fun _ _ _ h => h) | exact (fun _ _ _ h => absurd h.1 (by simp))) (by kernel_rfl) (by rfl) (by rintro w' ⟨y1, y2⟩; go_simp) (HS.out _ hbd) ?_; go_frame
  refine AnyT.takeD (i := 2) (v := .bool b) rfl rfl (by kernel_rfl) (by kernel_rfl) (by kernel_rfl) (by first | exact (fun _ _ _ h => h) | exact (fun _ _ _ h => absurd h.1 (by simp))) (by kernel_rfl) (by rfl) (by rintro w' ⟨y1, y2⟩; go_simp) (HS.out _ hbd) ?_; go_frame
  refine AnyT.takeD (i := 3) (v := .pointer (some ⟨s0, 0, none⟩)) rfl rfl (by kernel_rfl) (by kernel_rfl) (by kernel_rfl) (by first | exact (fun _ _ _ h => h) | exact (fun _ _ _ h => absurd h.1 (by simp))) (by kernel_rfl) (by rfl) (by rintro w' ⟨y1, y2⟩; go_simp) (HS.out _ hbd) ?_; go_frame
  refine AnyT.takeD (i := 4) (v := .int .i64 N) rfl rfl (by kernel_rfl) (by kernel_rfl) (by kernel_rfl) (by first | exact (fun _ _ _ h => h) | exact (fun _ _ _ h => absurd h.1 (by simp))) (by kernel_rfl) (by rfl) (by rintro w' ⟨y1, y2⟩; go_simp) (HS.out _ hbd) ?_; go_frame
  refine AnyT.takeD (i := 5) (v := .pointer (some ⟨s0, 0, none⟩)) rfl rfl (by kernel_rfl) (by kernel_rfl) (by kernel_rfl) (by first | exact (fun _ _ _ h => h) | exact (fun _ _ _ h => absurd h.1 (by simp))) (by kernel_rfl) (by rfl) (by rintro w' ⟨y1, y2⟩; go_simp) (HS.out _ hbd) ?_; go_frame
  refine AnyT.takeD (i := 6) (v := .int .i64 N) rfl rfl (by kernel_rfl) (by kernel_rfl) (by kernel_rfl) (by first | exact (fun _ _ _ h => h) | exact (fun _ _ _ h => absurd h.1 (by simp))) (by kernel_rfl) (by rfl) (by rintro w' ⟨y1, y2⟩; go_simp) (HS.out _ hbd) ?_; go_frame
  refine AnyT.takeD (i := 7) (v := .int .i64 (-N)) rfl rfl (by kernel_rfl) (by kernel_rfl) (by kernel_rfl) (by first | exact (fun _ _ _ h => h) | exact (fun _ _ _ h => absurd h.1 (by simp))) (by kernel_rfl) (by rfl) (by rintro w' ⟨y1, y2⟩; go_simp) (HS.out _ hbd) ?_; go_frame
  refine AnyT.takeD (i := 10) (v := .pointer (some ⟨s0, 1, none⟩)) rfl rfl (by kernel_rfl) (by kernel_rfl) (by kernel_rfl) (by first | exact (fun _ _ _ h => h) | exact (fun _ _ _ h => absurd h.1 (by simp))) (by kernel_rfl) (by rfl) (by rintro w' ⟨y1, y2⟩; go_simp) (HS.out _ hbd) ?_; go_frame
  refine AnyT.takeD (i := 11) (v := .int .i64 D) rfl rfl (by kernel_rfl) (by kernel_rfl) (by kernel_rfl) (by first | exact (fun _ _ _ h => h) | exact (fun _ _ _ h => absurd h.1 (by simp))) (by kernel_rfl) (by rfl) (by rintro w' ⟨y1, y2⟩; go_simp) (HS.out _ hbd) ?_; go_frame
  refine AnyT.next (i := 8) (by kernel_rfl) rfl (wpOp_of_list rfl ?_)
  go_wp2
  refine ⟨fun _ => HS.out _ hbd, ?_⟩
  refine AnyT.next (i := 9) (by kernel_rfl) rfl (wpOp_of_list rfl ?_)
  go_wp2_with (go_at_call 167; refine (HM1.out _).mono ?_; rintro e w1 ⟨v1, rfl, hv1, hb1⟩; refine Stop.of ?_)
  refine Stop.go ?_
  obtain ⟨a1, n1, c1, rfl⟩ := hv1.slice
  have HV1 := hid hv1
  have HB1 := hid (chain hbd hb1)
  clear hv1 hb1 hmx hmx2 hmx3 hng
  go_wp2
  refine ⟨fun _ => HS.out _ HB1.out, ?_⟩
  refine AnyT.next (i := 12) (by kernel_rfl) rfl (wpOp_of_list rfl ?_)
  go_wp2_with (go_at_call 167; refine (HM2.out _).mono ?_; rintro e w2 ⟨v2, rfl, hv2, hb2'⟩; refine Stop.of ?_)
  refine Stop.go ?_
  obtain ⟨a2, n2, c2, rfl⟩ := hv2.slice
  have HB2 := hid (chain HB1.out hb2')
  have hv1' := HV1.out.below hb2'
  have HK1 := hid (hv1'.keeps3 (g := s0 + 1) (u := .bool b) (v := .slice a1 n1 c1) (z := .slice a2 n2 c2) (HNG.out _ HB2.out))
  have HK2 := hid (hv2.keeps3 (g := s0 + 1) (u := .bool b) (v := .slice a1 n1 c1) (z := .slice a2 n2 c2) (HNG.out _ HB2.out))
  obtain ⟨x0, x1, x2, hfz, hlt⟩ := HR.out _ HB2.out
  have f0 := hfz 0
  have f1 := hfz 1
  have f2 := hfz 2
  have HFI := hid (HFIN.out _ HB2.out (.bool b) (.slice a1 n1 c1) (.slice a2 n2 c2))
  clear hv1' hv2 hb2' hfz HV1
  go_wp2
  refine ⟨fun _ => HS.out _ HB2.out, ?_⟩
  refine AnyT.takeD (i := 13) (v := .agg #[.bool b, .slice a1 n1 c1, .slice a2 n2 c2]) rfl rfl (by kernel_rfl) (by kernel_rfl) (by kernel_rfl) (by first | exact (fun _ _ _ h => h) | exact (fun _ _ _ h => absurd h.1 (by simp))) (by kernel_rfl) (by rfl) (by rintro w' ⟨y1, y2⟩; go_simp) (HS.out _ HB2.out) ?_; go_frame
  refine AnyT.next (i := 14) (by kernel_rfl) rfl (wpOp_of_list rfl ?_)
  go_wp2
  refine ⟨fun h => absurd h (by decide), ?_⟩
  refine AnyT.done (by kernel_rfl) ?_ _
  go_wp2
  refine bodyPost_ret (v := .agg #[.bool b, .slice a1 n1 c1, .slice a2 n2 c2]) ?_ rfl ⟨_, rfl, ⟨_, _, _, _, _, _, rfl, HK1.out, HK2.out⟩, HFI.out⟩
  simp [results, Try.results147, go_sem, x0, x1, x2, f0, f1, f2, hlt]

set_option maxHeartbeats 1000000 in
theorem whole_c (w : World) (n : Int) (hN : -4611686018427387904 ≤ n ∧ n ≤ 4611686018427387904) :
    Calls Try.prog 108 #[.int .i64 n] w fun e w' => ∃ x, e = .returned x ∧ RatQ w' x 3 (decide (n < 0)) (n.natAbs : Nat) 1 ∧ Below w.heap.size w w' := by
  obtain ⟨s0, hs⟩ : ∃ s, s = w.heap.size := ⟨_, rfl⟩
  obtain ⟨wa, hwa⟩ : ∃ wa, wa = w.alloc (.cells #[.bool false, .slice none 0 0, .slice none 0 0] 113) := ⟨_, rfl⟩
  have hba : Below w.heap.size w wa := by rw [hwa]; exact (Below.refl _ _).alloc (Nat.le_refl _) _
  have q0 : wa.heap[s0]? = some (.cells #[.bool false, .slice none 0 0, .slice none 0 0] 113 (0, 0)) := by
    rw [hwa, hs]; exact World.alloc_heap_new w _
  have hs1 : s0 < wa.heap.size := (Array.getElem?_eq_some_iff.1 q0).1
  have HR := hid (fun (Y : World) (hY : Below wa.heap.size wa Y) => show Y.cell? ⟨s0, 0, none⟩ = some (.bool false) ∧ Y.cell? ⟨s0, 1, none⟩ = some (.slice none 0 0) ∧ Y.cell? ⟨s0, 2, none⟩ = some (.slice none 0 0) ∧ (∀ o, Y.frozen? ⟨s0, o, none⟩ = false) ∧ s0 < Y.heap.size from by
    have h1 := (hY.block s0 hs1).trans q0
    exact ⟨by simp [World.cell?, h1], by simp [World.cell?, h1], by simp [World.cell?, h1], fun o => by simp [World.frozen?, h1], (Array.getElem?_eq_some_iff.1 h1).1⟩)
  have HFIN := hid (fun (Y : World) (hY : Below wa.heap.size wa Y) (x y z : Value) => show Below w.heap.size w (((Y.setCell ⟨s0, 0, none⟩ x).setCell ⟨s0, 1, none⟩ y).setCell ⟨s0, 2, none⟩ z) from
    below_set (below_set (below_set (chain hba hY) (by omega) 0 x) (by omega) 1 y) (by omega) 2 z)
  have HNG := hid (fun (Y : World) (hY : Below wa.heap.size wa Y) => show ∃ c, Y.heap[s0]? = some (.cells c 113 (0, 0)) ∧ ∀ x : Int, ∀ o : Nat, c[o]? ≠ some (.int .i64 x) from
    ⟨_, (hY.block s0 hs1).trans q0, fun x o => by match o with | 0 => simp | 1 => simp | 2 => simp | o + 3 => simp⟩)
  have HE := hid (exact_c wa n 1 hN (by decide))
  obtain ⟨b, hb⟩ : ∃ b, b = decide (n < 0) := ⟨_, rfl⟩
  obtain ⟨m, hm⟩ : ∃ m : Int, m = (n.natAbs : Nat) := ⟨_, rfl⟩
  rw [← hb, ← hm] at HE ⊢
  clear hba q0 hs1 hb hm
  go_enter Try.func108, Try.ntmps108
  go_wp2_with fail
  rw [← hs, ← hwa]
  clear hs hwa
  go_wp2_with (go_at_call 147; refine HE.out.mono ?_; rintro e w2 ⟨v2, rfl, ⟨a1, n1, c1, a2, n2, c2, rfl, hv1, hv2⟩, hb2⟩; refine Stop.of ?_)
  refine Stop.go ?_
  have HK1 := hid (hv1.keeps3 (g := s0) (u := .bool b) (v := .slice a1 n1 c1) (z := .slice a2 n2 c2) (HNG.out _ hb2))
  have HK2 := hid (hv2.keeps3 (g := s0) (u := .bool b) (v := .slice a1 n1 c1) (z := .slice a2 n2 c2) (HNG.out _ hb2))
  obtain ⟨x0, x1, x2, hfz, hlt⟩ := HR.out _ hb2
  have f0 := hfz 0
  have f1 := hfz 1
  have f2 := hfz 2
  have HFI := hid (HFIN.out _ hb2 (.bool b) (.slice a1 n1 c1) (.slice a2 n2 c2))
  clear hv1 hv2 hb2 hfz
  go_wp2
  refine bodyPost_ret (v := .agg #[.bool b, .slice a1 n1 c1, .slice a2 n2 c2]) ?_ rfl ⟨_, rfl, ⟨_, _, _, _, _, _, rfl, HK1.out, HK2.out⟩, HFI.out⟩
  simp [results, Try.results108, go_sem, x0, x1, x2, f0, f1, f2, hlt]
end Go.Proofs.Ytfipebkhomppmaa

namespace Go.Proofs.Ytfipebkhomppmaa
open Go.RowKit
set_option linter.unusedVariables false

set_option maxRecDepth 100000 in
set_option maxHeartbeats 2000000 in
theorem rtimes_c (w : World) (k : Int) (v : Value) (L : Nat) (s : Bool) (N D : Int) (hk : -4611686018427387904 ≤ k ∧ k ≤ 4611686018427387904) (h : RatQ w v L s N D) (hL : L ≤ 100) :
    Calls Try.prog 146 #[.int .i64 k, v] w fun e w' => ∃ x, e = .returned x ∧ RatQ w' x (3 + L) (s != decide (k < 0)) ((k.natAbs : Nat) * N) D ∧ Below w.heap.size w w' := by
  obtain ⟨na, nn, nc, da, dn, dc, rfl, hN, hD⟩ := h
  obtain ⟨s0, hs⟩ : ∃ s, s = w.heap.size := ⟨_, rfl⟩
  obtain ⟨wa, hwa⟩ : ∃ wa, wa = (w.alloc (.cells #[.bool s, .slice na nn nc, .slice da dn dc] 113)).alloc (.cells #[.bool false, .slice none 0 0, .slice none 0 0] 113) := ⟨_, rfl⟩
  have hba : Below w.heap.size w wa := by rw [hwa]; exact ((Below.refl _ _).alloc (Nat.le_refl _) _).alloc (by simp) _
  have q0 : wa.heap[s0 + 1]? = some (.cells #[.bool false, .slice none 0 0, .slice none 0 0] 113 (0, 0)) := by
    have := World.alloc_heap_new (w.alloc (.cells #[.bool s, .slice na nn nc, .slice da dn dc] 113)) (.cells #[.bool false, .slice none 0 0, .slice none 0 0] 113)
    rw [hwa, hs]
    simpa using this
  have hs1 : s0 + 1 < wa.heap.size := (Array.getElem?_eq_some_iff.1 q0).1
  have hc : ∀ o v, (#[Value.bool s, .slice na nn nc, .slice da dn dc] : Array Value)[o]? = some v → wa.cell? ⟨s0, o, none⟩ = some v := fun o v h => by
    rw [hwa, hs, World.cell?_alloc_past _ _ _ (by simp), World.cell?_alloc_at _ _ _ _ rfl]; exact h
  have HS := hid (fun (Y : World) (hY : Below wa.heap.size wa Y) => show Y.cell? ⟨s0, 0, none⟩ = some (.bool s) ∧ Y.cell? ⟨s0, 1, none⟩ = some (.slice na nn nc) ∧ Y.cell? ⟨s0, 2, none⟩ = some (.slice da dn dc) from by
    have k0 : ∀ o, Y.cell? ⟨s0, o, none⟩ = wa.cell? ⟨s0, o, none⟩ := fun o => hY.cell (p := ⟨s0, o, none⟩) (by show s0 < _; omega)
    exact ⟨(k0 0).trans (hc 0 _ rfl), (k0 1).trans (hc 1 _ rfl), (k0 2).trans (hc 2 _ rfl)⟩)
  have HR := hid (fun (Y : World) (hY : Below wa.heap.size wa Y) => show Y.cell? ⟨s0 + 1, 0, none⟩ = some (.bool false) ∧ Y.cell? ⟨s0 + 1, 1, none⟩ = some (.slice none 0 0) ∧ Y.cell? ⟨s0 + 1, 2, none⟩ = some (.slice none 0 0) ∧ (∀ o, Y.frozen? ⟨s0 + 1, o, none⟩ = false) ∧ s0 + 1 < Y.heap.size from by
    have h1 := (hY.block (s0 + 1) hs1).trans q0
    exact ⟨by simp [World.cell?, h1], by simp [World.cell?, h1], by simp [World.cell?, h1], fun o => by simp [World.frozen?, h1], (Array.getElem?_eq_some_iff.1 h1).1⟩)
  have HFIN := hid (fun (Y : World) (hY : Below wa.heap.size wa Y) (x y z : Value) => show Below w.heap.size w (((Y.setCell ⟨s0 + 1, 0, none⟩ x).setCell ⟨s0 + 1, 1, none⟩ y).setCell ⟨s0 + 1, 2, none⟩ z) from
    below_set (below_set (below_set (chain hba hY) (by omega) 0 x) (by omega) 1 y) (by omega) 2 z)
  have HNG := hid (fun (Y : World) (hY : Below wa.heap.size wa Y) => show ∃ c, Y.heap[s0 + 1]? = some (.cells c 113 (0, 0)) ∧ ∀ x : Int, ∀ o : Nat, c[o]? ≠ some (.int .i64 x) from
    ⟨_, (hY.block (s0 + 1) hs1).trans q0, fun x o => by match o with | 0 => simp | 1 => simp | 2 => simp | o + 3 => simp⟩)
  have HNN := hid (fun (Y : World) (hY : Below wa.heap.size wa Y) => And.intro (hN.below (chain hba hY)) (hD.below (chain hba hY)))
  obtain ⟨b, hb⟩ : ∃ b, b = decide (k < 0) := ⟨_, rfl⟩
  obtain ⟨m, hm⟩ : ∃ m : Int, m = (k.natAbs : Nat) := ⟨_, rfl⟩
  rw [← hb, ← hm]
  have hb2 := hb.symm
  have HM1 := hid (fun X => natOf_c X m (by omega) (by omega))
  have hng : IntKind.i64.wrap (-k) = -k := IntWalk.i64_in _ (by omega)
  have hmx : (if -k ≤ k then k else -k) = m := by split <;> omega
  have hmx2 : (if k ≤ -k then -k else k) = m := by split <;> omega
  have hmx3 : (if k < -k then -k else k) = m := by split <;> omega
  clear hba q0 hs1 hc hb hm hN hD
  go_enter Try.func146, Try.ntmps146
  go_wp2_with fail
  rw [← hs, ← hwa]
  clear hs hwa
  refine plain_region (fun j' X => decide (j' ≤ 15) = true → X.cell? ⟨s0, 0, none⟩ = some (.bool s) ∧ X.cell? ⟨s0, 1, none⟩ = some (.slice na nn nc) ∧ X.cell? ⟨s0, 2, none⟩ = some (.slice da dn dc)) (by kernel_rfl) ?_
  have hbd : Below wa.heap.size wa wa.drew := (Below.refl _ _).drew
  generalize wa.drew = wd at hbd ⊢
  refine AnyT.takeD (i := 0) (v := .pointer (some ⟨s0, 0, none⟩)) rfl rfl (by kernel_rfl) (by kernel_rfl) (by kernel_rfl) (by first | exact (fun _ _ _ h => h) | exact (fun _ _ _ h => absurd h.1 (by simp))) (by kernel_rfl) (by rfl) (by rintro w' ⟨y1, y2, y3⟩; go_simp) (HS.out _ hbd) ?_; go_frame
  refine AnyT.takeD (i := 1) (v := .bool s) rfl rfl (by kernel_rfl) (by kernel_rfl) (by kernel_rfl) (by first | exact (fun _ _ _ h => h) | exact (fun _ _ _ h => absurd h.1 (by simp))) (by kernel_rfl) (by rfl) (by rintro w' ⟨y1, y2, y3⟩; go_simp) (HS.out _ hbd) ?_; go_frame
  refine AnyT.takeD (i := 2) (v := .int .i64 k) rfl rfl (by kernel_rfl) (by kernel_rfl) (by kernel_rfl) (by first | exact (fun _ _ _ h => h) | exact (fun _ _ _ h => absurd h.1 (by simp))) (by kernel_rfl) (by rfl) (by rintro w' ⟨y1, y2, y3⟩; go_simp) (HS.out _ hbd) ?_; go_frame
  refine AnyT.takeD (i := 3) (v := .bool b) rfl rfl (by kernel_rfl) (by kernel_rfl) (by kernel_rfl) (by first | exact (fun _ _ _ h => h) | exact (fun _ _ _ h => absurd h.1 (by simp))) (by kernel_rfl) (by rfl) (by rintro w' ⟨y1, y2, y3⟩; go_simp) (HS.out _ hbd) ?_; go_frame
  refine AnyT.takeD (i := 4) (v := .bool (!(s == b))) rfl rfl (by kernel_rfl) (by kernel_rfl) (by kernel_rfl) (by first | exact (fun _ _ _ h => h) | exact (fun _ _ _ h => absurd h.1 (by simp))) (by kernel_rfl) (by rfl) (by rintro w' ⟨y1, y2, y3⟩; go_simp) (HS.out _ hbd) ?_; go_frame
  refine AnyT.takeD (i := 5) (v := .int .i64 k) rfl rfl (by kernel_rfl) (by kernel_rfl) (by kernel_rfl) (by first | exact (fun _ _ _ h => h) | exact (fun _ _ _ h => absurd h.1 (by simp))) (by kernel_rfl) (by rfl) (by rintro w' ⟨y1, y2, y3⟩; go_simp) (HS.out _ hbd) ?_; go_frame
  refine AnyT.takeD (i := 6) (v := .int .i64 k) rfl rfl (by kernel_rfl) (by kernel_rfl) (by kernel_rfl) (by first | exact (fun _ _ _ h => h) | exact (fun _ _ _ h => absurd h.1 (by simp))) (by kernel_rfl) (by rfl) (by rintro w' ⟨y1, y2, y3⟩; go_simp) (HS.out _ hbd) ?_; go_frame
  refine AnyT.takeD (i := 7) (v := .int .i64 (-k)) rfl rfl (by kernel_rfl) (by kernel_rfl) (by kernel_rfl) (by first | exact (fun _ _ _ h => h) | exact (fun _ _ _ h => absurd h.1 (by simp))) (by kernel_rfl) (by rfl) (by rintro w' ⟨y1, y2, y3⟩; go_simp) (HS.out _ hbd) ?_; go_frame
  refine AnyT.takeD (i := 10) (v := .pointer (some ⟨s0, 1, none⟩)) rfl rfl (by kernel_rfl) (by kernel_rfl) (by kernel_rfl) (by first | exact (fun _ _ _ h => h) | exact (fun _ _ _ h => absurd h.1 (by simp))) (by kernel_rfl) (by rfl) (by rintro w' ⟨y1, y2, y3⟩; go_simp) (HS.out _ hbd) ?_; go_frame
  refine AnyT.takeD (i := 11) (v := .slice na nn nc) rfl rfl (by kernel_rfl) (by kernel_rfl) (by kernel_rfl) (by first | exact (fun _ _ _ h => h) | exact (fun _ _ _ h => absurd h.1 (by simp))) (by kernel_rfl) (by rfl) (by rintro w' ⟨y1, y2, y3⟩; go_simp) (HS.out _ hbd) ?_; go_frame
  refine AnyT.takeD (i := 13) (v := .pointer (some ⟨s0, 2, none⟩)) rfl rfl (by kernel_rfl) (by kernel_rfl) (by kernel_rfl) (by first | exact (fun _ _ _ h => h) | exact (fun _ _ _ h => absurd h.1 (by simp))) (by kernel_rfl) (by rfl) (by rintro w' ⟨y1, y2, y3⟩; go_simp) (HS.out _ hbd) ?_; go_frame
  refine AnyT.takeD (i := 14) (v := .slice da dn dc) rfl rfl (by kernel_rfl) (by kernel_rfl) (by kernel_rfl) (by first | exact (fun _ _ _ h => h) | exact (fun _ _ _ h => absurd h.1 (by simp))) (by kernel_rfl) (by rfl) (by rintro w' ⟨y1, y2, y3⟩; go_simp) (HS.out _ hbd) ?_; go_frame
  refine AnyT.next (i := 8) (by kernel_rfl) rfl (wpOp_of_list rfl ?_)
  go_wp2
  refine ⟨fun _ => HS.out _ hbd, ?_⟩
  refine AnyT.next (i := 9) (by kernel_rfl) rfl (wpOp_of_list rfl ?_)
  go_wp2_with (go_at_call 167; refine (HM1.out _).mono ?_; rintro e w1 ⟨v1, rfl, hv1, hb1⟩; refine Stop.of ?_)
  refine Stop.go ?_
  obtain ⟨a1, n1, c1, rfl⟩ := hv1.slice
  have HV1 := hid hv1
  have HB1 := hid (chain hbd hb1)
  clear hv1 hb1 hmx hmx2 hmx3 hng
  go_wp2
  refine ⟨fun _ => HS.out _ HB1.out, ?_⟩
  refine AnyT.next (i := 12) (by kernel_rfl) rfl (wpOp_of_list rfl ?_)
  go_wp2_with (go_at_call 163; refine (times_c _ _ _ 3 L _ _ HV1.out (HNN.out _ HB1.out).1 (by omega) (by omega)).mono ?_; rintro e w2 ⟨v2, rfl, hv2, hb2'⟩; refine Stop.of ?_)
  refine Stop.go ?_
  obtain ⟨a2, n2, c2, rfl⟩ := hv2.slice
  have HB2 := hid (chain HB1.out hb2')
  have hd2 := (HNN.out _ HB2.out).2
  have HK1 := hid (hv2.keeps3 (g := s0 + 1) (u := .bool (!(s == b))) (v := .slice a2 n2 c2) (z := .slice da dn dc) (HNG.out _ HB2.out))
  have HK2 := hid ((hd2.keeps3 (g := s0 + 1) (u := .bool (!(s == b))) (v := .slice a2 n2 c2) (z := .slice da dn dc) (HNG.out _ HB2.out)).le (show L ≤ 3 + L by omega))
  obtain ⟨x0, x1, x2, hfz, hlt⟩ := HR.out _ HB2.out
  have f0 := hfz 0
  have f1 := hfz 1
  have f2 := hfz 2
  have HFI := hid (HFIN.out _ HB2.out (.bool (!(s == b))) (.slice a2 n2 c2) (.slice da dn dc))
  clear hv2 hd2 hb2' hfz HV1
  go_wp2
  refine ⟨fun _ => HS.out _ HB2.out, ?_⟩
  refine AnyT.takeD (i := 15) (v := .agg #[.bool (!(s == b)), .slice a2 n2 c2, .slice da dn dc]) rfl rfl (by kernel_rfl) (by kernel_rfl) (by kernel_rfl) (by first | exact (fun _ _ _ h => h) | exact (fun _ _ _ h => absurd h.1 (by simp))) (by kernel_rfl) (by rfl) (by rintro w' ⟨y1, y2, y3⟩; go_simp) (HS.out _ HB2.out) ?_; go_frame
  refine AnyT.next (i := 16) (by kernel_rfl) rfl (wpOp_of_list rfl ?_)
  go_wp2
  refine ⟨fun h => absurd h (by decide), ?_⟩
  refine AnyT.done (by kernel_rfl) ?_ _
  go_wp2
  refine bodyPost_ret (v := .agg #[.bool (!(s == b)), .slice a2 n2 c2, .slice da dn dc]) ?_ rfl ⟨_, rfl, ⟨_, _, _, _, _, _, rfl, HK1.out, HK2.out⟩, HFI.out⟩
  simp [results, Try.results146, go_sem, x0, x1, x2, f0, f1, f2, hlt]
end Go.Proofs.Ytfipebkhomppmaa

namespace Go.Proofs.Ytfipebkhomppmaa
open Go.RowKit
set_option linter.unusedVariables false

def sgn (s : Bool) (N : Int) : Int := if s = true then -N else N
theorem plusQ_val {s t : Bool} {N D M E : Int} : sgn (plusQ (s, N, D) (t, M, E)).1 (plusQ (s, N, D) (t, M, E)).2.1 = sgn s N * E + sgn t M * D := by
  unfold plusQ sgn
  cases s <;> cases t <;> simp <;> (try split) <;> (try simp) <;> grind
theorem plusQ_den {s t : Bool} {N D M E : Int} : (plusQ (s, N, D) (t, M, E)).2.2 = D * E := by
  unfold plusQ
  simp only []
  split
  · rfl
  · split <;> rfl

theorem rat_new {Y : World} {g : Nat} (h : Y.heap[g]? = some (.cells #[.bool false, .slice none 0 0, .slice none 0 0] 113 (0, 0))) :
    Y.cell? ⟨g, 0, none⟩ = some (.bool false) ∧ Y.cell? ⟨g, 1, none⟩ = some (.slice none 0 0) ∧ Y.cell? ⟨g, 2, none⟩ = some (.slice none 0 0) ∧ Y.frozen? ⟨g, 0, none⟩ = false ∧ Y.frozen? ⟨g, 1, none⟩ = false ∧ Y.frozen? ⟨g, 2, none⟩ = false ∧ g < Y.heap.size :=
  ⟨by simp [World.cell?, h], by simp [World.cell?, h], by simp [World.cell?, h], by simp [World.frozen?, h], by simp [World.frozen?, h], by simp [World.frozen?, h], (Array.getElem?_eq_some_iff.1 h).1⟩
theorem set_blk {Y : World} {g : Nat} {c : Array Value} {T : TypeId} {fz : Nat × Nat} (h : Y.heap[g]? = some (.cells c T fz)) (o : Nat) (v : Value) : (Y.setCell ⟨g, o, none⟩ v).heap[g]? = some (.cells (c.setIfInBounds o v) T fz) := by
  obtain ⟨hlt, hk⟩ := Array.getElem?_eq_some_iff.1 h
  show (Y.heap.modify g _)[g]? = _
  rw [Array.getElem?_eq_getElem (by rw [Array.size_modify]; exact hlt), Array.getElem_modify_self, hk]
  rfl
theorem rat_set {wa Y : World} {g N : Nat} (h : Y.heap[g]? = some (.cells #[.bool false, .slice none 0 0, .slice none 0 0] 113 (0, 0))) (hg : N ≤ g) (hb : Below N wa Y) (u v z : Value) :
    (((Y.setCell ⟨g, 0, none⟩ u).setCell ⟨g, 1, none⟩ v).setCell ⟨g, 2, none⟩ z).cell? ⟨g, 0, none⟩ = some u ∧ (((Y.setCell ⟨g, 0, none⟩ u).setCell ⟨g, 1, none⟩ v).setCell ⟨g, 2, none⟩ z).cell? ⟨g, 1, none⟩ = some v ∧
    (((Y.setCell ⟨g, 0, none⟩ u).setCell ⟨g, 1, none⟩ v).setCell ⟨g, 2, none⟩ z).cell? ⟨g, 2, none⟩ = some z ∧ Below N wa (((Y.setCell ⟨g, 0, none⟩ u).setCell ⟨g, 1, none⟩ v).setCell ⟨g, 2, none⟩ z) := by
  have e : (((Y.setCell ⟨g, 0, none⟩ u).setCell ⟨g, 1, none⟩ v).setCell ⟨g, 2, none⟩ z).heap[g]? = some (.cells #[u, v, z] 113 (0, 0)) := by
    have h1 := set_blk h 0 u
    have h2 := set_blk h1 1 v
    have h3 := set_blk h2 2 z
    exact h3
  exact ⟨by simp [World.cell?, e], by simp [World.cell?, e], by simp [World.cell?, e], below_set (below_set (below_set hb hg 0 u) hg 1 v) hg 2 z⟩

def OrdMid (wa : World) (P1 : Bool) (P2 : Int) (fr fr' : Act) (W : World) : Prop :=
  ∃ g pa pn pc qa qn qc r6 r7 r8 r9, fr' = (((((fr.put (some 6) r6).put (some 7) r7).put (some 8) r8).put (some 9) r9).put (some 5) (.pointer (some ⟨g, 0, none⟩))) ∧
    W.cell? ⟨g, 0, none⟩ = some (.bool P1) ∧ W.cell? ⟨g, 1, none⟩ = some (.slice pa pn pc) ∧ W.cell? ⟨g, 2, none⟩ = some (.slice qa qn qc) ∧ (pn = 0 ↔ P2 = 0) ∧ 0 ≤ P2 ∧ Below wa.heap.size wa W

set_option maxRecDepth 100000 in
set_option maxHeartbeats 2000000 in
theorem rorder_c (w : World) (v u : Value) (L K : Nat) (s t : Bool) (N D M E : Int) (h : RatQ w v L s N D) (k : RatQ w u K t M E) (hL : L ≤ 100) (hK : K ≤ 97) :
    Calls Try.prog 106 #[v, u] w fun e w' => e = .returned (.int .i64 (cmpI (sgn s N * E) (sgn t M * D))) ∧ Below w.heap.size w w' := by
  obtain ⟨na, nn, nc, da, dn, dc, rfl, hN, hD⟩ := h
  obtain ⟨ma, mn, mc, ea, en, ec, rfl, hM, hE⟩ := k
  obtain ⟨s0, hs⟩ : ∃ s, s = w.heap.size := ⟨_, rfl⟩
  obtain ⟨wa, hwa⟩ : ∃ wa, wa = (w.alloc (.cells #[.bool s, .slice na nn nc, .slice da dn dc] 113)).alloc (.cells #[.bool t, .slice ma mn mc, .slice ea en ec] 113) := ⟨_, rfl⟩
  have hba : Below w.heap.size w wa := by rw [hwa]; exact ((Below.refl _ _).alloc (Nat.le_refl _) _).alloc (by simp) _
  have hs1 : s0 + 1 < wa.heap.size := by rw [hwa, hs]; simp
  have hc : ∀ o v, (#[Value.bool s, .slice na nn nc, .slice da dn dc] : Array Value)[o]? = some v → wa.cell? ⟨s0, o, none⟩ = some v := fun o v h => by
    rw [hwa, hs, World.cell?_alloc_past _ _ _ (by simp), World.cell?_alloc_at _ _ _ _ rfl]; exact h
  have hc2 : ∀ o v, (#[Value.bool t, .slice ma mn mc, .slice ea en ec] : Array Value)[o]? = some v → wa.cell? ⟨s0 + 1, o, none⟩ = some v := fun o v h => by
    rw [hwa, hs, World.cell?_alloc_at _ _ _ _ (by simp)]; exact h
  have HS := hid (fun (Y : World) (hY : Below wa.heap.size wa Y) => show Y.cell? ⟨s0, 0, none⟩ = some (.bool s) ∧ Y.cell? ⟨s0, 1, none⟩ = some (.slice na nn nc) ∧ Y.cell? ⟨s0, 2, none⟩ = some (.slice da dn dc) ∧ Y.cell? ⟨s0 + 1, 0, none⟩ = some (.bool t) ∧ Y.cell? ⟨s0 + 1, 1, none⟩ = some (.slice ma mn mc) ∧ Y.cell? ⟨s0 + 1, 2, none⟩ = some (.slice ea en ec) from by
    have k0 : ∀ o, Y.cell? ⟨s0, o, none⟩ = wa.cell? ⟨s0, o, none⟩ := fun o => hY.cell (p := ⟨s0, o, none⟩) (by show s0 < _; omega)
    have k1 : ∀ o, Y.cell? ⟨s0 + 1, o, none⟩ = wa.cell? ⟨s0 + 1, o, none⟩ := fun o => hY.cell (p := ⟨s0 + 1, o, none⟩) (by show s0 + 1 < _; omega)
    exact ⟨(k0 0).trans (hc 0 _ rfl), (k0 1).trans (hc 1 _ rfl), (k0 2).trans (hc 2 _ rfl), (k1 0).trans (hc2 0 _ rfl), (k1 1).trans (hc2 1 _ rfl), (k1 2).trans (hc2 2 _ rfl)⟩)
  have HBA := hid hba
  have HT := hid (fun (Y : World) (hY : Below wa.heap.size wa Y) => show Calls Try.prog 146 #[.int .i64 (-1), .agg #[.bool t, .slice ma mn mc, .slice ea en ec]] Y (fun e w' => ∃ x, e = .returned x ∧ RatQ w' x (3 + K) (!t) M E ∧ Below Y.heap.size Y w') from by
    have h0 := rtimes_c Y (-1) (.agg #[.bool t, .slice ma mn mc, .slice ea en ec]) K t M E (by decide) ⟨_, _, _, _, _, _, rfl, hM.below (chain hba hY), hE.below (chain hba hY)⟩ (by omega)
    have e1 : (t != decide ((-1 : Int) < 0)) = !t := by cases t <;> rfl
    have e2 : (((-1 : Int).natAbs : Nat) : Int) * M = M := by simp
    rwa [e1, e2] at h0)
  have HA := hid (fun (Y : World) (hY : Below wa.heap.size wa Y) => show RatQ Y (.agg #[.bool s, .slice na nn nc, .slice da dn dc]) L s N D from ⟨_, _, _, _, _, _, rfl, hN.below (chain hba hY), hD.below (chain hba hY)⟩)
  obtain ⟨⟨P1, P2, P3⟩, hP⟩ : ∃ P, P = plusQ (s, N, D) (!t, M, E) := ⟨_, rfl⟩
  have HP := hid hP
  have HVAL := hid (show sgn P1 P2 = sgn s N * E - sgn t M * D from by
    have h1 := plusQ_val (s := s) (t := !t) (N := N) (D := D) (M := M) (E := E)
    rw [← hP] at h1
    simp only [] at h1
    have h2 : sgn (!t) M = - sgn t M := by cases t <;> simp [sgn]
    rw [h2] at h1
    rw [h1, Int.neg_mul]
    omega)
  clear hP
  obtain ⟨C, hC⟩ : ∃ C, C = cmpI (sgn s N * E) (sgn t M * D) := ⟨_, rfl⟩
  rw [← hC]
  have HVC := hid (show (P2 = 0 → C = 0) ∧ (P2 ≠ 0 → 0 ≤ P2 → P1 = false → C = 1) ∧ (P2 ≠ 0 → 0 ≤ P2 → P1 = true → C = -1) from by
    rw [hC]
    have hval := HVAL.out
    generalize sgn s N * E = X at hval ⊢
    generalize sgn t M * D = Y at hval ⊢
    unfold cmpI
    refine ⟨fun h => ?_, fun h h0 e => ?_, fun h h0 e => ?_⟩
    · subst h
      have : X = Y := by unfold sgn at hval; split at hval <;> omega
      simp [this]
    · subst e
      have : P2 = X - Y := by simpa [sgn] using hval
      rw [if_neg (by omega), if_neg (by omega)]
    · subst e
      have : -P2 = X - Y := by simpa [sgn] using hval
      rw [if_pos (by omega)])
  clear hC HVAL
  clear hba hs1 hc hc2 hN hD hM hE
  go_enter Try.func106, Try.ntmps106
  go_wp2_with fail
  rw [← hs, ← hwa]
  clear hs hwa
  refine region_cut (OrdMid wa P1 P2) ?_ ?_
  · refine plain_region (fun j' X => wAll j' = true → X.cell? ⟨s0, 0, none⟩ = some (.bool s) ∧ X.cell? ⟨s0, 1, none⟩ = some (.slice na nn nc) ∧ X.cell? ⟨s0, 2, none⟩ = some (.slice da dn dc) ∧ X.cell? ⟨s0 + 1, 0, none⟩ = some (.bool t) ∧ X.cell? ⟨s0 + 1, 1, none⟩ = some (.slice ma mn mc) ∧ X.cell? ⟨s0 + 1, 2, none⟩ = some (.slice ea en ec)) (by kernel_rfl) ?_
    have hbd : Below wa.heap.size wa wa.drew := (Below.refl _ _).drew
    generalize wa.drew = wd at hbd ⊢
    refine AnyT.takeD (i := 0) (v := .agg #[.bool s, .slice na nn nc, .slice da dn dc]) rfl rfl (by kernel_rfl) (by kernel_rfl) (by kernel_rfl) (by first | exact (fun _ _ _ h => h) | exact (fun _ _ _ h => absurd h.1 (by simp))) (by kernel_rfl) (by rfl) (by rintro w' ⟨y1, y2, y3, y4, y5, y6⟩; go_simp) (HS.out _ hbd) ?_; go_frame
    refine AnyT.takeD (i := 1) (v := .agg #[.bool t, .slice ma mn mc, .slice ea en ec]) rfl rfl (by kernel_rfl) (by kernel_rfl) (by kernel_rfl) (by first | exact (fun _ _ _ h => h) | exact (fun _ _ _ h => absurd h.1 (by simp))) (by kernel_rfl) (by rfl) (by rintro w' ⟨y1, y2, y3, y4, y5, y6⟩; go_simp) (HS.out _ hbd) ?_; go_frame
    refine AnyT.nextB (i := 2) (j := 4) (by kernel_rfl) (wpOp_of_list rfl ?_) (wpOp_of_list rfl ?_)
    · skip
      go_wp2_with (go_at_call 146; refine (HT.out _ hbd).mono ?_; rintro e w1 ⟨vw1, rfl, ⟨ta, tn, tc, tb, tm, te, rfl, ht1, ht2⟩, hbw1⟩; refine Stop.of ?_)
      refine Stop.go ?_
      have HT8 := hid (show RatQ w1 (.agg #[.bool (!t), .slice ta tn tc, .slice tb tm te]) (3 + K) (!t) M E from ⟨_, _, _, _, _, _, rfl, ht1, ht2⟩)
      have hbT := chain hbd hbw1
      clear ht1 ht2
      go_wp2
      refine ⟨fun _ => HS.out _ hbT, ?_⟩
      refine AnyT.nextB (i := 3) (j := 4) (by kernel_rfl) (wpOp_of_list rfl ?_) (wpOp_of_list rfl ?_)
      · skip
        go_wp2_with (go_at_call 145; refine (rplus_c _ _ _ L (3 + K) _ _ _ _ _ _ (HA.out _ hbT) HT8.out (by omega) (by omega)).mono ?_; rintro e w2 ⟨vw2, rfl, ⟨pa, pn, pc, qa, qn, qc, rfl, hp1, hp2⟩, hbw2⟩; refine Stop.of ?_)
        refine Stop.go ?_
        have hbP := chain hbT hbw2
        have HPZ := hid (show (pn = 0 ↔ P2 = 0) ∧ 0 ≤ P2 from by
          rw [← HP.out] at hp1
          refine ⟨?_, hp1.nonneg⟩
          obtain ⟨_, _, _, l, e1, e2, _, _, e4, e5, e6⟩ := hp1
          cases e1
          simp only [] at e6
          rw [← e6, trim_zero e4 e5, e2])
        have HPB := hid (show (plusQ (s, N, D) (!t, M, E)).1 = P1 from by rw [← HP.out])
        clear hp1 hp2
        go_wp2
        refine ⟨fun _ => HS.out _ hbP, ?_⟩
        refine AnyT.next (i := 4) (by kernel_rfl) rfl (wpOp_of_list rfl ?_)
        go_wp2
        have hbA := hbP.alloc hbP.size (.cells #[.bool false, .slice none 0 0, .slice none 0 0] 113)
        obtain ⟨x0, x1, x2, f0, f1, f2, hlt⟩ := rat_new (World.alloc_heap_new w2 (.cells #[.bool false, .slice none 0 0, .slice none 0 0] 113))
        have hfin := hid (fun u v z => rat_set (World.alloc_heap_new w2 (.cells #[.bool false, .slice none 0 0, .slice none 0 0] 113)) hbP.size hbA u v z)
        refine ⟨fun _ => HS.out _ hbA, ?_⟩
        generalize w2.alloc (.cells #[.bool false, .slice none 0 0, .slice none 0 0] 113) = wn at *
        generalize w2.heap.size = g at *
        refine AnyT.next (i := 5) (by kernel_rfl) rfl (wpOp_of_list rfl ?_)
        go_wp2
        obtain ⟨k0, k1, k2, k3⟩ := hfin.out (.bool (plusQ (s, N, D) (!t, M, E)).1) (.slice pa pn pc) (.slice qa qn qc)
        refine ⟨fun _ => HS.out _ k3, ?_⟩
        refine AnyT.done (by kernel_rfl) ?_ _
        exact ⟨rfl, g, pa, pn, pc, qa, qn, qc, _, _, _, _, rfl, k0.trans (congrArg (fun q => some (Value.bool q)) HPB.out), k1, k2, HPZ.out.1, HPZ.out.2, k3⟩
      · skip
        go_wp2
        have hbA := hbT.alloc hbT.size (.cells #[.bool false, .slice none 0 0, .slice none 0 0] 113)
        have hnew := World.alloc_heap_new w1 (.cells #[.bool false, .slice none 0 0, .slice none 0 0] 113)
        have HT9 := hid (show RatQ (w1.alloc (.cells #[.bool false, .slice none 0 0, .slice none 0 0] 113)) (.agg #[.bool (!t), .slice ta tn tc, .slice tb tm te]) (3 + K) (!t) M E from by
          obtain ⟨_, _, _, _, _, _, e, h1, h2⟩ := HT8.out
          cases e
          exact ⟨_, _, _, _, _, _, rfl, h1.below ((Below.refl _ _).alloc (Nat.le_refl _) _), h2.below ((Below.refl _ _).alloc (Nat.le_refl _) _)⟩)
        have hgN := hbT.size
        generalize w1.alloc (.cells #[.bool false, .slice none 0 0, .slice none 0 0] 113) = wn at hbA hnew HT9 ⊢
        obtain ⟨g, hg⟩ : ∃ g, g = w1.heap.size := ⟨_, rfl⟩
        rw [← hg] at hnew hgN ⊢
        clear hg HT8
        refine ⟨fun _ => HS.out _ hbA, ?_⟩
        refine AnyT.next (i := 3) (by kernel_rfl) rfl (wpOp_of_list rfl ?_)
        go_wp2_with (go_at_call 145; refine (rplus_c _ _ _ L (3 + K) _ _ _ _ _ _ (HA.out _ hbA) HT9.out (by omega) (by omega)).mono ?_; rintro e w2 ⟨vw2, rfl, ⟨pa, pn, pc, qa, qn, qc, rfl, hp1, hp2⟩, hbw2⟩; refine Stop.of ?_)
        refine Stop.go ?_
        have hbP := chain hbA hbw2
        have HPZ := hid (show (pn = 0 ↔ P2 = 0) ∧ 0 ≤ P2 from by
          rw [← HP.out] at hp1
          refine ⟨?_, hp1.nonneg⟩
          obtain ⟨_, _, _, l, e1, e2, _, _, e4, e5, e6⟩ := hp1
          cases e1
          simp only [] at e6
          rw [← e6, trim_zero e4 e5, e2])
        have HPB := hid (show (plusQ (s, N, D) (!t, M, E)).1 = P1 from by rw [← HP.out])
        clear hp1 hp2
        have hnew2 := (hbw2.block g (Array.getElem?_eq_some_iff.1 hnew).1).trans hnew
        obtain ⟨x0, x1, x2, f0, f1, f2, hlt⟩ := rat_new hnew2
        have hfin := hid (fun u v z => rat_set hnew2 hgN hbP u v z)
        clear hnew2 hnew
        go_wp2
        refine ⟨fun _ => HS.out _ hbP, ?_⟩
        refine AnyT.next (i := 5) (by kernel_rfl) rfl (wpOp_of_list rfl ?_)
        go_wp2
        obtain ⟨k0, k1, k2, k3⟩ := hfin.out (.bool (plusQ (s, N, D) (!t, M, E)).1) (.slice pa pn pc) (.slice qa qn qc)
        refine ⟨fun _ => HS.out _ k3, ?_⟩
        refine AnyT.done (by kernel_rfl) ?_ _
        exact ⟨rfl, g, pa, pn, pc, qa, qn, qc, _, _, _, _, rfl, k0.trans (congrArg (fun q => some (Value.bool q)) HPB.out), k1, k2, HPZ.out.1, HPZ.out.2, k3⟩
    · skip
      go_wp2
      have HB0 := hbd.alloc hbd.size (.cells #[.bool false, .slice none 0 0, .slice none 0 0] 113)
      have hnew := World.alloc_heap_new wd (.cells #[.bool false, .slice none 0 0, .slice none 0 0] 113)
      have hgN := hbd.size
      generalize wd.alloc (.cells #[.bool false, .slice none 0 0, .slice none 0 0] 113) = wn at HB0 hnew ⊢
      obtain ⟨g, hg⟩ : ∃ g, g = wd.heap.size := ⟨_, rfl⟩
      rw [← hg] at hnew hgN ⊢
      clear hg
      refine ⟨fun _ => HS.out _ HB0, ?_⟩
      refine AnyT.next (i := 2) (by kernel_rfl) rfl (wpOp_of_list rfl ?_)
      · skip
        go_wp2_with (go_at_call 146; refine (HT.out _ HB0).mono ?_; rintro e w1 ⟨vw1, rfl, ⟨ta, tn, tc, tb, tm, te, rfl, ht1, ht2⟩, hbw1⟩; refine Stop.of ?_)
        refine Stop.go ?_
        have HT8 := hid (show RatQ w1 (.agg #[.bool (!t), .slice ta tn tc, .slice tb tm te]) (3 + K) (!t) M E from ⟨_, _, _, _, _, _, rfl, ht1, ht2⟩)
        have hbT := chain HB0 hbw1
        clear ht1 ht2
        have hnew1 := (hbw1.block g (Array.getElem?_eq_some_iff.1 hnew).1).trans hnew
        clear hnew
        go_wp2
        refine ⟨fun _ => HS.out _ hbT, ?_⟩
        refine AnyT.next (i := 3) (by kernel_rfl) rfl (wpOp_of_list rfl ?_)
        go_wp2_with (go_at_call 145; refine (rplus_c _ _ _ L (3 + K) _ _ _ _ _ _ (HA.out _ hbT) HT8.out (by omega) (by omega)).mono ?_; rintro e w2 ⟨vw2, rfl, ⟨pa, pn, pc, qa, qn, qc, rfl, hp1, hp2⟩, hbw2⟩; refine Stop.of ?_)
        refine Stop.go ?_
        have hbP := chain hbT hbw2
        have HPZ := hid (show (pn = 0 ↔ P2 = 0) ∧ 0 ≤ P2 from by
          rw [← HP.out] at hp1
          refine ⟨?_, hp1.nonneg⟩
          obtain ⟨_, _, _, l, e1, e2, _, _, e4, e5, e6⟩ := hp1
          cases e1
          simp only [] at e6
          rw [← e6, trim_zero e4 e5, e2])
        have HPB := hid (show (plusQ (s, N, D) (!t, M, E)).1 = P1 from by rw [← HP.out])
        clear hp1 hp2
        have hnew2 := (hbw2.block g (Array.getElem?_eq_some_iff.1 hnew1).1).trans hnew1
        obtain ⟨x0, x1, x2, f0, f1, f2, hlt⟩ := rat_new hnew2
        have hfin := hid (fun u v z => rat_set hnew2 hgN hbP u v z)
        clear hnew2 hnew1
        go_wp2
        refine ⟨fun _ => HS.out _ hbP, ?_⟩
        refine AnyT.next (i := 5) (by kernel_rfl) rfl (wpOp_of_list rfl ?_)
        go_wp2
        obtain ⟨k0, k1, k2, k3⟩ := hfin.out (.bool (plusQ (s, N, D) (!t, M, E)).1) (.slice pa pn pc) (.slice qa qn qc)
        refine ⟨fun _ => HS.out _ k3, ?_⟩
        refine AnyT.done (by kernel_rfl) ?_ _
        exact ⟨rfl, g, pa, pn, pc, qa, qn, qc, _, _, _, _, rfl, k0.trans (congrArg (fun q => some (Value.bool q)) HPB.out), k1, k2, HPZ.out.1, HPZ.out.2, k3⟩
  · rintro fr' W ⟨g, pa, pn, pc, qa, qn, qc, r6, r7, r8, r9, rfl, c0, c1, c2, hz, h0, hbW⟩
    have HBW := hid (chain HBA.out hbW)
    have HC := hid (show (pn = 0 → C = 0) ∧ (pn ≠ 0 → P1 = false → C = 1) ∧ (pn ≠ 0 → P1 = true → C = -1) from
      ⟨fun h => HVC.out.1 (hz.1 h), fun h e => HVC.out.2.1 (fun h' => h (hz.2 h')) h0 e, fun h e => HVC.out.2.2 (fun h' => h (hz.2 h')) h0 e⟩)
    clear hz hbW h0 HVC HP
    go_frame
    by_cases hp : pn = 0
    · have hpb : ((pn : Int) == 0) = true := by simp [hp]
      obtain rfl := HC.out.1 hp
      clear HC
      go_wp2
      go_ret
      exact ⟨rfl, HBW.out⟩
    · have hpb : ((pn : Int) == 0) = false := by simp [hp]
      cases P1
      · obtain rfl := HC.out.2.1 hp rfl
        clear HC
        go_wp2
        go_ret
        exact ⟨rfl, HBW.out⟩
      · obtain rfl := HC.out.2.2 hp rfl
        clear HC
        go_wp2
        go_ret
        exact ⟨rfl, HBW.out⟩
end Go.Proofs.Ytfipebkhomppmaa

namespace Go.Proofs.Ytfipebkhomppmaa
section
open Go.RowKit Go.Lib
set_option linter.unusedVariables false

def ratAt (x : List Rt) (k : Nat) : Rt := x[k]?.getD (0, 1)
def sumR (r : List Int) (x : List Rt) : Nat → Int × Int
  | 0 => (0, 1)
  | k + 1 => if vec r k ≠ 0 then ((sumR r x k).1 * (ratAt x k).2 + (sumR r x k).2 * ((ratAt x k).1 * vec r k), (sumR r x k).2 * (ratAt x k).2) else sumR r x k
theorem sumR_bnd {r : List Int} {x : List Rt} (h1 : ∀ k, -1 ≤ vec r k ∧ vec r k ≤ 1) (hx : ∀ k, 1 ≤ (ratAt x k).2 ∧ (ratAt x k).2 ≤ 400 ∧ -10000000000 ≤ (ratAt x k).1 ∧ (ratAt x k).1 ≤ 10000000000) :
    ∀ k : Nat, (sumR r x k).1.natAbs ≤ k * 10000000000 * 400 ^ k ∧ 1 ≤ (sumR r x k).2 ∧ (sumR r x k).2.natAbs ≤ 400 ^ k
  | 0 => by simp [sumR]
  | k + 1 => by
    obtain ⟨i1, i2, i3⟩ := sumR_bnd h1 hx k
    obtain ⟨x1, x2, x3, x4⟩ := hx k
    have hv := h1 k
    have hp : 400 ^ (k + 1) = 400 ^ k * 400 := Nat.pow_succ ..
    have hmono : 400 ^ k ≤ 400 ^ (k + 1) := by rw [hp]; omega
    rw [sumR]
    by_cases h0 : vec r k ≠ 0
    · rw [if_pos h0]
      simp only []
      generalize sumR r x k = s at i1 i2 i3
      generalize ratAt x k = q at x1 x2 x3 x4
      obtain ⟨s1, s2⟩ := s
      obtain ⟨q1, q2⟩ := q
      simp only [] at *
      have e1 : (s1 * q2).natAbs ≤ k * 10000000000 * 400 ^ k * 400 := by
        rw [Int.natAbs_mul]; exact Nat.mul_le_mul i1 (by omega)
      have e2 : (s2 * (q1 * vec r k)).natAbs ≤ 400 ^ k * 10000000000 := by
        rw [Int.natAbs_mul]
        refine Nat.mul_le_mul i3 ?_
        rw [Int.natAbs_mul]
        have : q1.natAbs * (vec r k).natAbs ≤ 10000000000 * 1 := Nat.mul_le_mul (by omega) (by omega)
        omega
      have e3 : (s2 * q2).natAbs ≤ 400 ^ k * 400 := by
        rw [Int.natAbs_mul]; exact Nat.mul_le_mul i3 (by omega)
      refine ⟨?_, ?_, by rw [hp]; exact e3⟩
      · have e4 : (k + 1) * 10000000000 * 400 ^ (k + 1) = k * 10000000000 * 400 ^ k * 400 + 400 ^ k * 10000000000 * 400 := by
          rw [hp]
          generalize 400 ^ k = P
          grind
        rw [e4]
        have e5 : 400 ^ k * 10000000000 ≤ 400 ^ k * 10000000000 * 400 := by omega
        omega
      · have := Int.mul_pos (show (0 : Int) < s2 by omega) (show (0 : Int) < q2 by omega)
        omega
    · rw [if_neg h0]
      refine ⟨?_, i2, Nat.le_trans i3 hmono⟩
      refine Nat.le_trans i1 ?_
      exact Nat.mul_le_mul (by omega) hmono
theorem sumR_bnd10 {r : List Int} {x : List Rt} (h1 : ∀ k, -1 ≤ vec r k ∧ vec r k ≤ 1) (hx : ∀ k, 1 ≤ (ratAt x k).2 ∧ (ratAt x k).2 ≤ 400 ∧ -10000000000 ≤ (ratAt x k).1 ∧ (ratAt x k).1 ≤ 10000000000) {k : Nat} (hk : k ≤ 10) :
    (sumR r x k).1.natAbs ≤ 10485760000000000000000000000000000000 ∧ 1 ≤ (sumR r x k).2 ∧ (sumR r x k).2.natAbs ≤ 104857600000000000000000000 := by
  obtain ⟨i1, i2, i3⟩ := sumR_bnd h1 hx k
  have hp : 400 ^ k ≤ 400 ^ 10 := Nat.pow_le_pow_right (by decide) hk
  have e10 : (400 : Nat) ^ 10 = 104857600000000000000000000 := by decide +kernel
  rw [e10] at hp
  refine ⟨?_, i2, by omega⟩
  refine Nat.le_trans i1 ?_
  have : k * 10000000000 * 400 ^ k ≤ 10 * 10000000000 * 104857600000000000000000000 := Nat.mul_le_mul (by omega) hp
  omega

theorem sumR_bnd9 {r : List Int} {x : List Rt} (h1 : ∀ k, -1 ≤ vec r k ∧ vec r k ≤ 1) (hx : ∀ k, 1 ≤ (ratAt x k).2 ∧ (ratAt x k).2 ≤ 400 ∧ -10000000000 ≤ (ratAt x k).1 ∧ (ratAt x k).1 ≤ 10000000000) {k : Nat} (hk : k ≤ 9) :
    (sumR r x k).1.natAbs * 400 ≤ 10485760000000000000000000000000000000 ∧ (sumR r x k).2.natAbs * 400 ≤ 104857600000000000000000000 := by
  obtain ⟨i1, i2, i3⟩ := sumR_bnd h1 hx k
  have hp : 400 ^ k ≤ 400 ^ 9 := Nat.pow_le_pow_right (by decide) hk
  have e9 : (400 : Nat) ^ 9 = 262144000000000000000000 := by decide +kernel
  rw [e9] at hp
  refine ⟨?_, by omega⟩
  have : k * 10000000000 * 400 ^ k ≤ 9 * 10000000000 * 262144000000000000000000 := Nat.mul_le_mul (by omega) hp
  omega

def makesB (M : Mask) (x : List Rt) (y : List Int) : Bool :=
  decide (rdE M y = 0) && (decide (x.length = colsM M) && (x.all validR && decide (∀ i, i < M.length → (sumR (M[i]?.getD []) x (colsM M)).1 = (sumR (M[i]?.getD []) x (colsM M)).2 * vec y i)))
theorem mk_no1 {M : Mask} {x : List Rt} {y : List Int} (h : rdE M y ≠ 0) : makesB M x y = false := by unfold makesB; rw [decide_eq_false h]; rfl
theorem mk_no2 {M : Mask} {x : List Rt} {y : List Int} (h : x.length ≠ colsM M) : makesB M x y = false := by unfold makesB; rw [decide_eq_false h]; simp
theorem mk_no3 {M : Mask} {x : List Rt} {y : List Int} (h : x.all validR = false) : makesB M x y = false := by unfold makesB; rw [h]; simp
theorem mk_no4 {M : Mask} {x : List Rt} {y : List Int} {i : Nat} (hi : i < M.length) (h : (sumR (M[i]?.getD []) x (colsM M)).1 ≠ (sumR (M[i]?.getD []) x (colsM M)).2 * vec y i) : makesB M x y = false := by
  have : decide (∀ i, i < M.length → (sumR (M[i]?.getD []) x (colsM M)).1 = (sumR (M[i]?.getD []) x (colsM M)).2 * vec y i) = false := decide_eq_false fun hh => h (hh i hi)
  unfold makesB; rw [this]; simp
theorem mk_yes {M : Mask} {x : List Rt} {y : List Int} (h1 : rdE M y = 0) (h2 : x.length = colsM M) (h3 : x.all validR = true) (h4 : ∀ i, i < M.length → (sumR (M[i]?.getD []) x (colsM M)).1 = (sumR (M[i]?.getD []) x (colsM M)).2 * vec y i) : makesB M x y = true := by
  unfold makesB; rw [decide_eq_true h1, decide_eq_true h2, h3, decide_eq_true h4]; rfl

def SumB (w : World) (g : Nat) (n d : Int) : Prop := w.heap[g]? = some (.cells #[.int .i64 (n / 18446744073709551616), .int .u64 (n % 18446744073709551616), .int .i64 (d / 18446744073709551616), .int .u64 (d % 18446744073709551616)] 105 (0, 0))
theorem SumB.lt {w : World} {g : Nat} {n d : Int} (h : SumB w g n d) : g < w.heap.size := (Array.getElem?_eq_some_iff.1 h).1
theorem SumB.keep {w w' : World} {g : Nat} {n d : Int} (h : SumB w g n d) (hk : w'.heap[g]? = w.heap[g]?) : SumB w' g n d := hk.trans h
theorem SumB.cells {w : World} {g : Nat} {n d n1 n2 d1 d2 : Int} (h : SumB w g n d) (pn : WP n n1 n2) (pd : WP d d1 d2) : w.cell? ⟨g, 0, none⟩ = some (.int .i64 n1) ∧ w.cell? ⟨g, 1, none⟩ = some (.int .u64 n2) ∧ w.cell? ⟨g, 2, none⟩ = some (.int .i64 d1) ∧ w.cell? ⟨g, 3, none⟩ = some (.int .u64 d2) ∧ ∀ o, w.frozen? ⟨g, o, none⟩ = false := by
  unfold SumB at h
  rw [pn.1, pn.2, pd.1, pd.2]
  exact ⟨by simp [World.cell?, h], by simp [World.cell?, h], by simp [World.cell?, h], by simp [World.cell?, h], fun o => by simp [World.frozen?, h]⟩
theorem SumB.set {w : World} {g : Nat} {n d m e a b c f : Int} (h : SumB w g n d) (pm : WP m a b) (pe : WP e c f) : SumB ((((w.setCell ⟨g, 0, none⟩ (.int .i64 a)).setCell ⟨g, 1, none⟩ (.int .u64 b)).setCell ⟨g, 2, none⟩ (.int .i64 c)).setCell ⟨g, 3, none⟩ (.int .u64 f)) g m e := by
  unfold SumB
  rw [cells_set (cells_set (cells_set (cells_set h 0 _) 1 _) 2 _) 3 _, pm.1, pm.2, pe.1, pe.2]
  simp
theorem SumB.made (w : World) {n d a b c f : Int} (pn : WP n a b) (pd : WP d c f) : SumB (w.alloc (.cells #[.int .i64 a, .int .u64 b, .int .i64 c, .int .u64 f] 105)) w.heap.size n d := by
  unfold SumB
  rw [World.alloc_heap_new, pn.1, pn.2, pd.1, pd.2]

set_option maxRecDepth 100000 in
set_option maxHeartbeats 4000000 in
theorem lmakes_c (w : World) (a a2 a3 : Option Addr) (n cap n2 cap2 n3 cap3 : Nat) (M : Mask) (x : List Rt) (y : List Int) (hn : M.length = n) (hn2 : x.length = n2) (hn3 : y.length = n3) (hm : n ≤ maxLen) (hm2 : n2 ≤ maxLen) (hm3 : n3 ≤ maxLen) (H : RowsAt w a M) (H2 : RatsAt w a2 x) (H3 : IntsAt w a3 y) :
    Calls Try.prog 50 #[.slice a n cap, .slice a2 n2 cap2, .slice a3 n3 cap3] w fun e w' => e = .returned (.bool (makesB M x y)) ∧ Below w.heap.size w w' := by
  have HRD := hid (lreading_c w a a3 n cap n3 cap3 M y hn hn3 hm hm3 H H3)
  have HN1 := hid (mk_no1 (M := M) (x := x) (y := y))
  have HN2 := hid (mk_no2 (M := M) (x := x) (y := y))
  have HN3 := hid (mk_no3 (M := M) (x := x) (y := y))
  obtain ⟨B, hB⟩ : ∃ B, B = makesB M x y := ⟨_, rfl⟩
  rw [← hB] at HN1 HN2 HN3 ⊢
  by_cases h0 : rdE M y = 0
  rotate_left
  · rw [decide_eq_false h0] at HRD
    obtain rfl : B = false := HN1.out h0
    clear hn hn2 hn3 H H2 H3 hB h0 HN2 HN3
    go_enter Try.func50, Try.ntmps50
    go_wp2_with (go_at_call 48; refine HRD.out.mono ?_; rintro e w1 ⟨rfl, hb1⟩)
    go_ret
    exact ⟨rfl, hb1⟩
  rw [decide_eq_true h0] at HRD
  obtain ⟨hok, hyl, hmil⟩ := rd_ok h0
  obtain ⟨hM, h1, h6, hc1, hc10⟩ := okM_ok hok
  obtain ⟨b, off, ra, rc, rfl, hb, hc⟩ := rows_head H (by omega)
  have HCC := hid (fun (X : World) (hX : Below w.heap.size w X) => show X.cell? ⟨b, off, none⟩ = some (.slice ra (colsM M) rc) from (hX.cell (p := ⟨b, off, none⟩) hb).trans hc)
  have HN4 := hid (fun i (hi : i < M.length) h => mk_no4 (x := x) (y := y) hi h)
  have HYS := hid (fun h2 h3 h4 => mk_yes (M := M) (x := x) (y := y) h0 h2 h3 h4)
  rw [← hB] at HYS HN4
  have i0 : (0 : Int) < (n : Int) := by omega
  have HCI := hid (fun (X : World) (hX : Below w.heap.size w X) => containsInv X a2 n2 cap2 x hn2 hm2 (H2.below hX))
  have HRW := hid (fun (X : World) (hX : Below w.heap.size w X) => H.below hX)
  have HXI := hid (fun (X : World) (hX : Below w.heap.size w X) => H2.below hX)
  have HYI := hid (fun (X : World) (hX : Below w.heap.size w X) => H3.below hX)
  have HMW := hid (show ∀ r ∈ M, r.length = colsM M ∧ ∀ k, -1 ≤ vec r k ∧ vec r k ≤ 1 from fun r hr => ⟨hM.wid r hr, hM.one r hr⟩)
  have HYB := hid (mil_le hmil)
  have HN := hid hn
  have HNX := hid hn2
  have HNY := hid hn3
  have HHN := hid (show n3 = n by omega)
  have hn6 : n ≤ 6 := by omega
  obtain ⟨W, hW⟩ : ∃ W, W = colsM M := ⟨_, rfl⟩
  rw [← hW] at HCC HN2 HN4 HYS HMW hc10 hc1
  clear hn hn2 hn3 H H2 H3 hB h0 hok hyl hmil hM h1 h6 hb hc HN1 hW
  by_cases hlw : n2 = W
  rotate_left
  · obtain rfl : B = false := HN2.out (by rw [HNX.out]; exact hlw)
    have hlb : ((n2 : Int) != (W : Int)) = true := by simp; omega
    clear HN3 HN4 HYS HCI HRW HXI HYI HMW HYB
    go_enter Try.func50, Try.ntmps50
    go_wp2_with (go_at_call 48; refine HRD.out.mono ?_; rintro e w1 ⟨rfl, hb1⟩; refine Stop.of ?_)
    refine Stop.go ?_
    have cc := HCC.out _ hb1
    go_wp2
    go_ret
    exact ⟨rfl, hb1⟩
  subst hlw
  have hlb : ((n2 : Int) != (n2 : Int)) = false := by simp
  obtain ⟨V, hV⟩ : ∃ V, V = !x.all validR := ⟨_, rfl⟩
  rw [← hV] at HCI
  have HVV := hid hV.symm
  clear hV
  go_enter Try.func50, Try.ntmps50
  go_wp2_with (go_at_call 48; refine HRD.out.mono ?_; rintro e w1 ⟨rfl, hb1⟩; refine Stop.of ?_)
  refine Stop.go ?_
  have cc := HCC.out _ hb1
  have HB1 := hid hb1
  have HCI1 := hid (HCI.out _ hb1)
  clear hb1 HCI HRD
  go_wp2_with (go_at_call 100; refine HCI1.out.mono ?_; rintro e w2 ⟨rfl, hb2⟩; refine Stop.of ?_)
  refine Stop.go ?_
  have HB2 := hid (chain HB1.out hb2)
  clear hb2 HB1 HCI1 cc HCC
  cases V
  rotate_left
  · obtain rfl : B = false := HN3.out (by have := HVV.out; simpa using this)
    go_wp2
    go_ret
    exact ⟨rfl, HB2.out⟩
  · have hall : x.all validR = true := by have := HVV.out; simpa using this
    have hxv : ∀ k, 1 ≤ (ratAt x k).2 ∧ (ratAt x k).2 ≤ 400 ∧ -10000000000 ≤ (ratAt x k).1 ∧ (ratAt x k).1 ≤ 10000000000 := fun k => by
      unfold ratAt
      cases e : x[k]? with
      | none => decide
      | some r =>
        have := List.all_eq_true.1 hall r (List.mem_of_getElem? e)
        rw [validR_iff] at this
        exact ⟨this.1, this.2.1, this.2.2.1, this.2.2.2.1⟩
    have HXV := hid hxv
    have HYS2 := hid (HYS.out HNX.out hall)
    clear hall hxv HN2 HN3 HYS HVV
    go_wp2
    go_loopw [31] (fun i wr => ∃ k : Nat, k ≤ n ∧ i = .int .i64 k ∧ Below w.heap.size w wr ∧ Hid (∀ q, q < k → (sumR (M[q]?.getD []) x n2).1 = (sumR (M[q]?.getD []) x n2).2 * vec y q)) (fun i _ => n - (intOf i).toNat)
    case atStart => exact ⟨0, Nat.zero_le _, rfl, HB2.out, hid (fun q h => by omega)⟩
    case round =>
      obtain ⟨k, hk, rfl, hbk, HQ⟩ := hrel
      by_cases hlt : k < n
      · have hkM : k < M.length := by rw [HN.out]; exact hlt
        obtain ⟨b5, o5, ra5, rn5, rc5, e5, hb5, hc5, hrn5, hrm5, hri5⟩ := (HRW.out wr hbk) k hkM
        cases e5
        obtain ⟨hwid, hone⟩ := HMW.out _ (List.getElem_mem hkM)
        obtain rfl : rn5 = n2 := by omega
        have hrowe : M[k]?.getD [] = M[k] := by rw [List.getElem?_eq_getElem hkM]; rfl
        have HNK := hid (HN4.out k hkM)
        rw [hrowe] at HNK
        have HQX := hid (fun (h : (sumR M[k] x rn5).1 = (sumR M[k] x rn5).2 * vec y k) => show ∀ q, q < k + 1 → (sumR (M[q]?.getD []) x rn5).1 = (sumR (M[q]?.getD []) x rn5).2 * vec y q from fun q hq => by
          rcases Nat.lt_or_ge q k with h3 | h3
          · exact HQ.out q h3
          · obtain rfl : q = k := by omega
            rw [hrowe]; exact h)
        obtain ⟨R, hR⟩ : ∃ R, R = M[k] := ⟨_, rfl⟩
        rw [← hR] at hri5 hone hwid HNK HQX
        have HBD := hid (fun j (hj : j ≤ 10) => sumR_bnd10 hone HXV.out hj)
        have HBD9 := hid (fun j (hj : j ≤ 9) => sumR_bnd9 hone HXV.out hj)
        have HRI := hid (fun (X : World) (hX : Below wr.heap.size wr X) => hri5.below hX)
        have HONE := hid hone
        have HWID := hid hwid
        have HBK := hid hbk
        have i1 : (k : Int) < (n : Int) := by omega
        clear hR hrowe hri5 hrn5 hkM hone hwid hbk HN4 HQ
        go_wp2_with (go_at_call 102; refine (wzero_c _).mono ?_; rintro e w3 ⟨rfl, hb3⟩; refine Stop.of ?_)
        refine Stop.go ?_
        have hz : sumV 0 1 = .agg #[.int .i64 0, .int .u64 0, .int .i64 0, .int .u64 1] := by simp [sumV]
        rw [hz]
        clear hz
        go_wp2_with fail
        obtain ⟨wb, hwb⟩ : ∃ wb, wb = w3.alloc (.cells #[.int .i64 0, .int .u64 0, .int .i64 0, .int .u64 1] 105) := ⟨_, rfl⟩
        obtain ⟨g, hg⟩ : ∃ g, g = w3.heap.size := ⟨_, rfl⟩
        have hsb : SumB wb g 0 1 := by rw [hwb, hg]; exact SumB.made w3 ⟨by decide, by decide⟩ ⟨by decide, by decide⟩
        have hbb : Below w3.heap.size w3 wb := by rw [hwb]; exact (Below.refl _ _).alloc (Nat.le_refl _) _
        rw [← hwb, ← hg]
        have HSB := hid hsb
        have HBB := hid hbb
        have HB3 := hid hb3
        have HG := hid hg
        clear hwb hg hsb hbb hb3
        obtain ⟨wo, hwo⟩ : ∃ wo, wo = wr := ⟨_, rfl⟩
        subst hwo
        go_loopw [39] (fun i wr => ∃ t : Nat, t ≤ rn5 ∧ i = .int .i64 t ∧ SumB wr g (sumR R x t).1 (sumR R x t).2 ∧ Below w3.heap.size w3 wr) (fun i _ => rn5 - (intOf i).toNat)
        case atStart => exact ⟨0, Nat.zero_le _, rfl, HSB.out, HBB.out⟩
        case round =>
          obtain ⟨t, ht, rfl, hsb, hbt⟩ := hrel
          by_cases htl : t < rn5
          · have hbw : Below wo.heap.size wo wr := HB3.out.trans (hbt.mono HB3.out.size)
            obtain ⟨b6, o6, rfl, hb6, hc6⟩ := (HRI.out wr hbw) t (by rw [HWID.out]; exact htl)
            have hv6 : R[t]?.getD 0 = vec R t := rfl
            rw [hv6] at hc6
            have hone := HONE.out t
            have hsr : sumR R x (t + 1) = if vec R t ≠ 0 then ((sumR R x t).1 * (ratAt x t).2 + (sumR R x t).2 * ((ratAt x t).1 * vec R t), (sumR R x t).2 * (ratAt x t).2) else sumR R x t := rfl
            obtain ⟨v, hv⟩ : ∃ v, v = vec R t := ⟨_, rfl⟩
            rw [← hv] at hc6 hsr hone
            by_cases h0 : v = 0
            · rw [if_neg (by simp [h0])] at hsr
              have hvb : (v != 0) = false := by simp [h0]
              have HSR := hid hsr
              have HSX := hid hsb
              have HBT := hid hbt
              clear hv6 hv hsr hsb hbt hbw
              go_wp2
              refine ⟨⟨t + 1, by omega, by go_num, by rw [HSR.out]; exact HSX.out, HBT.out⟩, by simp [intOf]; omega⟩
            · rw [if_pos h0] at hsr
              have hvb : (v != 0) = true := by simp [h0]
              obtain ⟨k1, k2, k3⟩ := HBD.out t (by omega)
              obtain ⟨m1, m2, m3⟩ := HBD.out (t + 1) (by omega)
              obtain ⟨z1, z2⟩ := HBD9.out t (by omega)
              obtain ⟨x1, x2, x3, x4⟩ := HXV.out t
              obtain ⟨bx, ox, rfl, hbx, hx0, hx1⟩ := (HXI.out wr (chain HBK.out hbw)) t (by rw [HNX.out]; exact htl)
              have hxt : ratAt x t = x[t]'(by rw [HNX.out]; exact htl) := by unfold ratAt; rw [List.getElem?_eq_getElem (by rw [HNX.out]; exact htl)]; rfl
              rw [← hxt] at hx0 hx1
              rw [hsr] at m1 m2 m3
              have HSR := hid hsr
              obtain ⟨⟨N, D⟩, hND⟩ : ∃ q, q = ratAt x t := ⟨_, rfl⟩
              rw [← hND] at hx0 hx1 m1 m2 m3 x1 x2 x3 x4 HSR
              obtain ⟨⟨sn, sd⟩, hS⟩ : ∃ q, q = sumR R x t := ⟨_, rfl⟩
              rw [← hS] at hsb k1 k2 k3 m1 m2 m3 z1 z2 HSR
              simp only [] at hx0 hx1 m1 m2 m3 x1 x2 x3 x4 HSR hsb k1 k2 k3 z1 z2
              have e1 : (sn * D).natAbs ≤ 10485760000000000000000000000000000000 := by
                rw [Int.natAbs_mul]
                have : sn.natAbs * D.natAbs ≤ sn.natAbs * 400 := Nat.mul_le_mul_left _ (by omega)
                omega
              have e2 : (sd * (N * v)).natAbs ≤ 104857600000000000000000000 * 10000000000 := by
                rw [Int.natAbs_mul, Int.natAbs_mul]
                exact Nat.mul_le_mul k3 (by have : N.natAbs * v.natAbs ≤ 10000000000 * 1 := Nat.mul_le_mul (by omega) (by omega); omega)
              have e3 : -10000000000 ≤ N * v ∧ N * v ≤ 10000000000 := by
                have : (N * v).natAbs ≤ 10000000000 * 1 := by rw [Int.natAbs_mul]; exact Nat.mul_le_mul (by omega) (by omega)
                omega
              have HPL := hid (fun (X : World) => splus_c X sn sd N D v (by unfold B127; omega) (by unfold B127; omega) (by omega) (by omega) (by unfold B127; omega) (by unfold B127; omega) (by unfold B127; omega) (by unfold B127; omega))
              obtain ⟨n1, n2, pn⟩ := WP.ex sn
              obtain ⟨d1, d2, pd⟩ := WP.ex sd
              obtain ⟨s1, s2, pS⟩ := WP.ex (sn * D + sd * (N * v))
              obtain ⟨q1, q2, pC⟩ := WP.ex (sd * D)
              rw [pn.sum pd, pS.sum pC] at HPL
              simp only [ratV] at HPL
              have HSS := hid (fun (X : World) (hX : SumB X g sn sd) => hX.set pS pC)
              have hcel := hsb.cells pn pd
              have hgl := hsb.lt
              have HSX := hid hsb
              have HBT := hid hbt
              have HS := hid (fun (X : World) (hX : Below wr.heap.size wr X) => show X.cell? ⟨g, 0, none⟩ = some (.int .i64 n1) ∧ X.cell? ⟨g, 1, none⟩ = some (.int .u64 n2) ∧ X.cell? ⟨g, 2, none⟩ = some (.int .i64 d1) ∧ X.cell? ⟨g, 3, none⟩ = some (.int .u64 d2) ∧ X.cell? ⟨bx, ox + t * 2, none⟩ = some (.int .i64 N) ∧ X.cell? ⟨bx, ox + t * 2 + 1, none⟩ = some (.int .i64 D) from
                ⟨(hX.cell (p := ⟨g, 0, none⟩) hgl).trans hcel.1, (hX.cell (p := ⟨g, 1, none⟩) hgl).trans hcel.2.1, (hX.cell (p := ⟨g, 2, none⟩) hgl).trans hcel.2.2.1, (hX.cell (p := ⟨g, 3, none⟩) hgl).trans hcel.2.2.2.1, (hX.cell (p := ⟨bx, _, none⟩) hbx).trans hx0, (hX.cell (p := ⟨bx, _, none⟩) hbx).trans hx1⟩)
              have htl2 : (t : Int) < (rn5 : Int) := by omega
              clear hv6 hv hsr hsb hbt hbw k1 k2 k3 m1 m2 m3 z1 z2 x1 x2 x3 x4 e1 e2 e3 hND hS pn pd pS pC hcel hx0 hx1 hxt
              go_wp2
              refine plain_region (fun j' X => decide (j' ≤ 6) = true → X.cell? ⟨g, 0, none⟩ = some (.int .i64 n1) ∧ X.cell? ⟨g, 1, none⟩ = some (.int .u64 n2) ∧ X.cell? ⟨g, 2, none⟩ = some (.int .i64 d1) ∧ X.cell? ⟨g, 3, none⟩ = some (.int .u64 d2) ∧ X.cell? ⟨bx, ox + t * 2, none⟩ = some (.int .i64 N) ∧ X.cell? ⟨bx, ox + t * 2 + 1, none⟩ = some (.int .i64 D)) (by kernel_rfl) ?_
              have hbd : Below wr.heap.size wr wr.drew := (Below.refl _ _).drew
              have HSXd := hid (HSX.out.keep (w' := wr.drew) rfl)
              generalize wr.drew = wd at hbd HSXd ⊢
              refine AnyT.takeD (i := 0) (v := .agg #[.int .i64 n1, .int .u64 n2, .int .i64 d1, .int .u64 d2]) rfl rfl (by kernel_rfl) (by kernel_rfl) (by kernel_rfl) (by first | exact (fun _ _ _ h => h) | exact (fun _ _ _ h => absurd h.1 (by simp))) (by kernel_rfl) (by rfl) (by rintro w' ⟨y1, y2, y3, y4, y5, y6⟩; go_simp) (HS.out _ hbd) ?_; go_frame
              refine AnyT.takeD (i := 1) (v := .slice (some ⟨bx, ox, none⟩) rn5 cap2) rfl rfl (by kernel_rfl) (by kernel_rfl) (by kernel_rfl) (by first | exact (fun _ _ _ h => h) | exact (fun _ _ _ h => absurd h.1 (by simp))) (by kernel_rfl) (by rfl) (by rintro w' ⟨y1, y2, y3, y4, y5, y6⟩; go_simp) (HS.out _ hbd) ?_; go_frame
              refine AnyT.takeD (i := 2) (v := .int .i64 t) rfl rfl (by kernel_rfl) (by kernel_rfl) (by kernel_rfl) (by first | exact (fun _ _ _ h => h) | exact (fun _ _ _ h => absurd h.1 (by simp))) (by kernel_rfl) (by rfl) (by rintro w' ⟨y1, y2, y3, y4, y5, y6⟩; go_simp) (HS.out _ hbd) ?_; go_frame
              refine AnyT.takeD (i := 3) (v := .pointer (some ⟨bx, ox + t * 2, none⟩)) rfl rfl (by kernel_rfl) (by kernel_rfl) (by kernel_rfl) (by first | exact (fun _ _ _ h => h) | exact (fun _ _ _ h => absurd h.1 (by simp))) (by kernel_rfl) (by rfl) (by rintro w' ⟨y1, y2, y3, y4, y5, y6⟩; go_simp) (HS.out _ hbd) ?_; go_frame
              refine AnyT.takeD (i := 4) (v := .agg #[.int .i64 N, .int .i64 D]) rfl rfl (by kernel_rfl) (by kernel_rfl) (by kernel_rfl) (by first | exact (fun _ _ _ h => h) | exact (fun _ _ _ h => absurd h.1 (by simp))) (by kernel_rfl) (by rfl) (by rintro w' ⟨y1, y2, y3, y4, y5, y6⟩; go_simp) (HS.out _ hbd) ?_; go_frame
              refine AnyT.takeD (i := 5) (v := .int .i64 v) rfl rfl (by kernel_rfl) (by kernel_rfl) (by kernel_rfl) (by first | exact (fun _ _ _ h => h) | exact (fun _ _ _ h => absurd h.1 (by simp))) (by kernel_rfl) (by rfl) (by rintro w' ⟨y1, y2, y3, y4, y5, y6⟩; go_simp) (HS.out _ hbd) ?_; go_frame
              refine AnyT.next (i := 6) (by kernel_rfl) rfl (wpOp_of_list rfl ?_)
              go_wp2_with (go_at_call 103; refine (HPL.out _).mono ?_; rintro e w4 ⟨rfl, hb4⟩; refine Stop.of ?_)
              refine Stop.go ?_
              have HB4 := hid (chain hbd hb4)
              have hs4 := HSXd.out.keep (hb4.block g HSXd.out.lt)
              obtain ⟨y1, y2, y3, y4, y5, y6⟩ := HS.out _ HB4.out
              have hfz : ∀ o, w4.frozen? ⟨g, o, none⟩ = false := by
                obtain ⟨_, _, p1⟩ := WP.ex sn
                obtain ⟨_, _, p2⟩ := WP.ex sd
                exact (hs4.cells p1 p2).2.2.2.2
              have f0 := hfz 0
              have f1 := hfz 1
              have f2 := hfz 2
              have f3 := hfz 3
              have HST := hid (HSS.out w4 hs4)
              have hg4 : g < w4.heap.size := hs4.lt
              have HBE := hid (show Below w3.heap.size w3 ((((w4.setCell ⟨g, 0, none⟩ (.int .i64 s1)).setCell ⟨g, 1, none⟩ (.int .u64 s2)).setCell ⟨g, 2, none⟩ (.int .i64 q1)).setCell ⟨g, 3, none⟩ (.int .u64 q2)) from by
                have hg3 : w3.heap.size ≤ g := by rw [HG.out]; exact Nat.le_refl _
                exact below_set (below_set (below_set (below_set (HBT.out.trans (HB4.out.mono HBT.out.size)) hg3 0 _) hg3 1 _) hg3 2 _) hg3 3 _)
              clear hs4 hfz HSS HPL hb4 HSXd hbd
              go_wp2
              refine ⟨fun _ => HS.out _ HB4.out, ?_⟩
              refine AnyT.next (i := 7) (by kernel_rfl) rfl (wpOp_of_list rfl ?_)
              go_wp2
              refine ⟨fun h => absurd h (by decide), ?_⟩
              refine AnyT.done (by kernel_rfl) ?_ _
              go_wp2
              refine ⟨⟨t + 1, by omega, by go_num, ?_, HBE.out⟩, by simp [intOf]; omega⟩
              rw [HSR.out]
              exact HST.out
          · obtain rfl : t = rn5 := by omega
            have hbw : Below wo.heap.size wo wr := HB3.out.trans (hbt.mono HB3.out.size)
            obtain ⟨k1, k2, k3⟩ := HBD.out t (by omega)
            have hkY : k < y.length := by rw [HNY.out, HHN.out]; exact hlt
            obtain ⟨by7, oy7, rfl, hby, hcy⟩ := (HYI.out wr (chain HBK.out hbw)) k hkY
            have hvy : y[k]?.getD 0 = vec y k := rfl
            rw [hvy] at hcy
            have hyb := vec_mem (P := fun z => -1000000 ≤ z ∧ z ≤ 1000000) (by decide) HYB.out k
            obtain ⟨yv, hyv⟩ : ∃ v, v = vec y k := ⟨_, rfl⟩
            rw [← hyv] at hcy hyb HNK HQX
            obtain ⟨⟨sn, sd⟩, hS⟩ : ∃ q, q = sumR R x t := ⟨_, rfl⟩
            rw [← hS] at hsb k1 k2 k3 HNK HQX
            simp only [] at hsb k1 k2 k3 HNK HQX
            have e2 : (sd * yv).natAbs ≤ 104857600000000000000000000 * 1000000 := by
              rw [Int.natAbs_mul]
              exact Nat.mul_le_mul k3 (by omega)
            have HCP := hid (fun (X : World) => scompare_c X sn sd yv (by unfold B127; omega) (by omega) (by unfold B127; omega))
            obtain ⟨n1, n2, pn⟩ := WP.ex sn
            obtain ⟨d1, d2, pd⟩ := WP.ex sd
            rw [pn.sum pd] at HCP
            obtain ⟨z0, z1, z2, z3, _⟩ := hsb.cells pn pd
            have l0 := lift_cell hsb.lt z0
            have l1 := lift_cell hsb.lt z1
            have l2 := lift_cell hsb.lt z2
            have l3 := lift_cell hsb.lt z3
            have l4 := lift_cell hby hcy
            have hcz : (cmpI sn (sd * yv) = 0 ↔ sn = sd * yv) := by unfold cmpI; split <;> (try split) <;> omega
            obtain ⟨cv, hcv⟩ : ∃ c, c = cmpI sn (sd * yv) := ⟨_, rfl⟩
            rw [← hcv] at HCP hcz
            have HCZ := hid hcz
            have HBT := hid (chain HBK.out hbw)
            have i3 : (k : Int) < (n3 : Int) := by have := HHN.out; omega
            have i4 : (0 : Int) ≤ (k : Int) := by omega
            clear hbw hkY hvy hyv hS hsb k1 k2 k3 e2 pn pd z0 z1 z2 z3 hcv hcz hcy hbt hyb
            go_wp2
            refine region_lift (by kernel_rfl) (by kernel_rfl) ?_
            repeat (go_big_quiet_step ((go_at_call 104; exact lift_calls (HCP.out _))))
            refine wpQuiet_nil ?_
            rintro _ ⟨X, rfl⟩
            have HFB := hid (chain HBT.out (lift_below wr X))
            clear l0 l1 l2 l3 l4
            by_cases hc0 : cv = 0
            · have hcb : (cv != 0) = false := by simp [hc0]
              have HX := hid (HQX.out (HCZ.out.1 hc0))
              go_wp2
              exact ⟨⟨k + 1, by omega, by go_num, HFB.out, HX⟩, by simp [intOf]; omega⟩
            · have hcb : (cv != 0) = true := by simp [hc0]
              obtain rfl : B = false := HNK.out (fun h => hc0 (HCZ.out.2 h))
              go_wp2
              go_ret
              exact ⟨rfl, HFB.out⟩
      · obtain rfl : k = n := by omega
        obtain rfl : B = true := HYS2.out (fun i hi => HQ.out i (by have := HN.out; omega))
        go_wp2
        go_ret
        exact ⟨rfl, hbk⟩
end

section
open Go.RowKit Go.Lib
set_option linter.unusedVariables false

theorem r3Reading_c (w : World) (a a2 : Option Addr) (n cap n2 cap2 : Nat) (M : Mask) (y : List Int) (hn : M.length = n) (hn2 : y.length = n2) (hm : n ≤ maxLen) (hm2 : n2 ≤ maxLen) (H : RowsAt w a M) (H2 : IntsAt w a2 y) :
    Calls Try.prog 49 #[.slice a n cap, .slice a2 n2 cap2] w fun e w' => e = .returned (.bool (decide (rdE M y = 0))) ∧ w = w' := by
  have HC := hid (r3Read_c w a a2 n cap n2 cap2 M y hn hn2 hm hm2 H H2)
  obtain ⟨E, hE⟩ : ∃ E, E = rdE M y := ⟨_, rfl⟩
  rw [← hE] at HC ⊢
  clear hE hn hn2 H H2
  go_enter Try.func49, Try.ntmps49
  go_wp2_with (go_at_call 99; refine HC.out.mono ?_; rintro e w1 ⟨rfl, rfl⟩; refine Stop.of ?_)
  refine Stop.go ?_
  go_wp2
  go_ret
  exact ⟨ret_bool (by rw [Bool.eq_iff_iff]; simp), rfl⟩

end

section
set_option linter.unusedVariables false

end
end Go.Proofs.Ytfipebkhomppmaa

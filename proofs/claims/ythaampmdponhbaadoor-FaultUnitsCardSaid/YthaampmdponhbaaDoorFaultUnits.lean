/- The statement FaultUnits: the walk of the law. -/
import Derived.Test.YthaampmdponhbaaDoorFltS
namespace Go.Proofs.YthaampmdponhbaaDoor
open Go.RowKit Go.Maps
set_option linter.unusedVariables false

/-- what Units returns -/
def unitsA (M : Mask) : List (List Int) := if okM M = true then unitsL (colsM M) else []
def UnitsP (M : Mask) (w : World) (e : Ending) (w' : World) : Prop :=
  ∃ v base, e = .returned (.tuple #[v, .int .i64 (maskE M)]) ∧ w.heap.size ≤ base ∧ RowsO 3 30 w' base (fun _ => True) v (unitsA M) ∧ Below w.heap.size w w'
theorem units_p {M : Mask} {w w' : World} {e : Ending} (h : UnitsRet M w e w') : UnitsP M w e w' := by
  obtain ⟨hb, h⟩ := h
  unfold UnitsP maskE unitsA
  by_cases h1 : okM M = true
  · rw [if_pos h1] at h ⊢
    obtain ⟨v, base, e1, hbase, hR⟩ := h
    rw [if_pos h1]
    exact ⟨v, base, e1, hbase, hR, hb⟩
  · rw [if_neg h1] at h ⊢
    rw [if_neg h1]
    exact ⟨_, w.heap.size, h, Nat.le_refl _, RowsO.nil _ _ _ _ _, hb⟩

theorem unitsA_10 {M : Mask} : (unitsA M).length ≤ 10 := by
  unfold unitsA
  split
  · rename_i h; have := (okM_len h).2.2.2.1; unfold unitsL; simp; omega
  · simp

theorem okShown_unit {M : Mask} (h : okM M = true) : ∀ x ∈ unitsL (colsM M), okShown M x = true := by
  intro x hx
  unfold unitsL at hx
  obtain ⟨j, hj, rfl⟩ := List.mem_map.1 hx
  unfold okShown
  rw [h, Bool.true_and, Bool.and_eq_true]
  refine ⟨by simp [unitL], ?_⟩
  rw [List.all_eq_true]
  intro n hn
  have : n = 0 ∨ n = 1 := by
    unfold unitL at hn
    rcases List.mem_or_eq_of_mem_set hn with h | h
    · left; exact List.eq_of_mem_replicate h
    · right; exact h
  rcases this with rfl | rfl <;> rfl

theorem units_all {M : Mask} (h : okM M = true) : listedE M (unitsA M) = 0 ∧ enoughB M (unitsA M) = true := by
  have e : unitsA M = unitsL (colsM M) := by unfold unitsA; rw [if_pos h]
  have h1 : listedE M (unitsA M) = 0 := by
    rw [e]
    unfold listedE
    rw [if_pos h, if_pos]
    unfold picsB
    rw [Bool.and_eq_true, List.all_eq_true]
    refine ⟨?_, okShown_unit h⟩
    have := (okM_len h).2.2.2.1
    simp [unitsL]; omega
  refine ⟨h1, ?_⟩
  unfold enoughB
  rw [h1, e, units_enough h]; rfl

set_option maxRecDepth 100000 in
set_option maxHeartbeats 2000000 in
theorem faultUnits_c (w : World) (ht : Tab w) (a : Option Addr) (n cap : Nat) (M : Mask) (hn : M.length = n) (hm : n ≤ maxLen) (H : RowsAt w a M) :
    Calls Tryd.prog 3 #[.slice a n cap] w fun e w' => e = .returned (.bool true) ∧ Below w.heap.size w w' := by
  have HF := hid (fit_c w a n cap M hn hm H)
  have HA := hid (fun (W : World) (hb : Below w.heap.size w W) => awake_c W (ht.below hb))
  have HU := hid (fun (W : World) (hb : Below w.heap.size w W) => (units_c W a n cap M hn hm (H.below hb)).mono fun e w' h => units_p h)
  have HV := hid (fun (W : World) (hb : Below w.heap.size w W) => (refUnits_c W a n cap M hn hm (H.below hb)).mono fun e w' h => units_p h)
  have HE := hid (fun (W : World) (hb : Below w.heap.size w W) (a2 : Option Addr) (n2 cap2 : Nat) (hn2 : (unitsA M).length = n2) (hm2 : n2 ≤ maxLen) (H2 : RowsAt W a2 (unitsA M)) => Enough_c W (ht.below hb) a n cap M hn hm (H.below hb) a2 n2 cap2 (unitsA M) hn2 hm2 H2)
  have HQ := hid (@units_all M)
  have H10 := @unitsA_10 M
  clear hn H ht
  cases h1 : fitM M
  · rw [h1] at HF
    clear h1
    go_enter Tryd.func3, Tryd.ntmps3
    go_wp2_with (first | (go_at_call 8; refine HF.out.mono ?_; rintro e w1 ⟨rfl, rfl⟩) | (go_at_call 9; refine (HA.out _ (Below.refl _ _)).mono ?_; rintro e w1 ⟨rfl, hb1⟩))
    go_ret
    exact ⟨rfl, hb1⟩
  · rw [h1] at HF
    clear h1
    obtain ⟨E, hE⟩ : ∃ E, E = maskE M := ⟨_, rfl⟩
    obtain ⟨U, hU⟩ : ∃ U, U = unitsA M := ⟨_, rfl⟩
    obtain ⟨N, hN⟩ : ∃ N, N = U.length := ⟨_, rfl⟩
    rw [← hU, ← hN] at H10
    have HEq := hid hE
    have HUq := hid hU
    have HNq := hid hN
    clear hE hU hN
    go_enter Tryd.func3, Tryd.ntmps3
    go_wp2_with (first | (go_at_call 8; refine HF.out.mono ?_; rintro e w1 ⟨rfl, rfl⟩) | (go_at_call 10; refine (HU.out _ (Below.refl _ _)).mono ?_; rintro e w1 ⟨v1, base1, rfl, hbase1, hR1, hb1⟩; refine Stop.of ?_))
    refine Stop.go ?_
    rw [← HEq.out]
    rw [← HUq.out] at hR1
    obtain ⟨a1, c1, rfl, _, hRA, _⟩ := hR1.reads
    rw [← HNq.out]
    have HRA := hid hRA
    clear hR1 hRA hbase1
    go_wp2_with (go_at_call 11; refine (HV.out _ hb1).mono ?_; rintro e w2 ⟨v2, base2, rfl, hbase2, hR2, hb2⟩; refine Stop.of ?_)
    refine Stop.go ?_
    rw [← HEq.out]
    rw [← HUq.out] at hR2
    obtain ⟨a2, c2, rfl, _, hRB, _⟩ := hR2.reads
    rw [← HNq.out]
    have HRB := hid hRB
    have HRA2 := hid (HRA.out.below hb2)
    have HB2 := hid (chain hb1 hb2)
    have hz2 := HB2.out.size
    clear hR2 hRB hbase2 hb1 hb2
    go_wp2
    go_loopw [36] (fun i wr => ∃ k : Nat, k ≤ N ∧ i = .int .i64 k ∧ Below w2.heap.size w2 wr) (fun i _ => N - (intOf i).toNat)
    case atStart => exact ⟨0, Nat.zero_le _, rfl, Below.refl _ _⟩
    case round =>
      obtain ⟨k, hk, rfl, hbr⟩ := hrel
      have HBR := hid hbr
      clear hbr
      by_cases hlt : k < N
      · have hkU : k < U.length := by rw [← HNq.out]; exact hlt
        obtain ⟨b, off, ra, rn, rc, rfl, hbs, hc, hrn, hrm, hri⟩ := (HRA2.out.below HBR.out) k hkU
        obtain ⟨b', off', ra', rn', rc', rfl, hbs', hc', hrn', hrm', hri'⟩ := (HRB.out.below HBR.out) k hkU
        have HS := hid (fun q => sameInts_c (wr.drewN q) ra ra' rn rc rn' rc' U[k] U[k] hrn hrn' hrm hrm' (hri.below (below_drewN (Below.refl _ _) q)) (hri'.below (below_drewN (Below.refl _ _) q)))
        simp only [decide_true] at HS
        clear hri hri' hrn hrn' hkU
        go_wp2
        go_quiet ((go_at_call 12; exact Calls.quiet_of (HS.out _)))
        go_wp2
        exact ⟨⟨k + 1, by omega, by go_num, below_drewN HBR.out _⟩, by simp [intOf]; omega⟩
      · obtain rfl : k = N := by omega
        have HBw := hid (chain HB2.out HBR.out)
        by_cases h0 : E = 0
        · subst h0
          have hM : okM M = true := by
            have := HEq.out; unfold maskE at this
            cases h : okM M
            · rw [h] at this; simp at this
            · rfl
          obtain ⟨q1, q2⟩ := HQ.out hM
          have HEn := hid (HE.out wr HBw.out a1 k c1 (by rw [← HUq.out, ← HNq.out]) (by unfold maxLen; omega) (by rw [← HUq.out]; exact HRA2.out.below HBR.out))
          rw [q1, q2] at HEn
          clear q1 q2 hM
          go_wp2_with (first | (go_at_call 13; refine HEn.out.mono ?_; rintro e w3 ⟨rfl, hb3⟩) | (go_at_call 9; refine (HA.out _ (chain HBw.out hb3)).mono ?_; rintro e w4 ⟨rfl, hb4⟩))
          go_ret
          exact ⟨rfl, chain (chain HBw.out hb3) hb4⟩
        · have h1 : (E != 0) = true := by simpa using h0
          clear h0
          go_wp2_with (go_at_call 9; refine (HA.out _ HBw.out).mono ?_; rintro e w3 ⟨rfl, hb3⟩)
          go_ret
          exact ⟨rfl, chain HBw.out hb3⟩
end Go.Proofs.YthaampmdponhbaaDoor

/- Walks of fault.All, fault.Classes, fault.Enough. -/
import Derived.Test.YthaampmdponhbaaGreatDoorFltQ
namespace Go.Proofs.YthaampmdponhbaaGreatDoor
open Go.RowKit Go.Maps
set_option linter.unusedVariables false

/-- the error of a mask -/
def maskE (M : Mask) : Int := if okM M = true then 0 else 1
/-- what All returns -/
def allL (M : Mask) : List Flt := if okM M = true then allF M else []
/-- what Classes returns -/
def clsL (M : Mask) (L : List (List Int)) : List Int := if listedE M L = 0 then classF M L else []
/-- what Enough returns -/
def enoughB (M : Mask) (L : List (List Int)) : Bool := decide (listedE M L = 0) && enoughF M L

theorem listedE_ok {M : Mask} {L : List (List Int)} (h : listedE M L = 0) : okM M = true ∧ picsB M L = true := by
  unfold listedE at h
  by_cases h1 : okM M = true
  · rw [if_pos h1] at h
    by_cases h2 : picsB M L = true
    · exact ⟨h1, h2⟩
    · rw [if_neg h2] at h; simp at h
  · rw [if_neg h1] at h; simp at h

theorem All_c (w : World) (a : Option Addr) (n cap : Nat) (M : Mask) (hn : M.length = n) (hm : n ≤ maxLen) (H : RowsAt w a M) :
    Calls Tryz.prog 30 #[.slice a n cap] w fun e w' => ∃ v base, e = .returned (.tuple #[v, .int .i64 (maskE M)]) ∧ w.heap.size ≤ base ∧ FltsO w' base v (allL M) ∧ Below w.heap.size w w' := by
  have HV := hid (maskValid_c w a n cap M hn hm H)
  cases h1 : okM M
  · rw [h1] at HV
    have HE := hid (show maskE M = 1 ∧ allL M = [] by unfold maskE allL; rw [h1]; simp)
    clear h1 hn H
    go_enter Tryz.func30, Tryz.ntmps30
    go_wp2_with (go_at_call 62; refine HV.out.mono ?_; rintro e w1 ⟨rfl, hb1⟩)
    go_ret2
    refine ⟨.slice none 0 0, w1.heap.size, by rw [HE.out.1]; rfl, hb1.size, ?_, hb1⟩
    rw [HE.out.2]
    exact FltsO.nil _ _
  · rw [h1] at HV
    have HE := hid (show maskE M = 0 ∧ allL M = allF M by unfold maskE allL; rw [h1]; simp)
    have HA := hid (fun (W : World) (hb : Below w.heap.size w W) => all_c W a n cap M hn (H.below hb) h1)
    clear h1 hn H
    go_enter Tryz.func30, Tryz.ntmps30
    go_wp2_with (first | (go_at_call 62; refine HV.out.mono ?_; rintro e w1 ⟨rfl, hb1⟩) | (go_at_call 63; refine (HA.out _ hb1).mono ?_; rintro e w2 ⟨v, base, rfl, hbase, hF, hb2⟩))
    go_ret2
    refine ⟨v, base, by rw [HE.out.1]; rfl, Nat.le_trans hb1.size hbase, ?_, chain hb1 hb2⟩
    rw [HE.out.2]
    exact hF

theorem enough_stop {M : Mask} {L : List (List Int)} {k : Nat} (hk : k < (allF M).length) (h : (classF M L)[k]? ≠ some (k : Int)) : enoughF M L = false := by
  unfold enoughF
  rw [decide_eq_false_iff_not]
  exact fun h9 => h (h9 k hk)
theorem enough_done {M : Mask} {L : List (List Int)} (h : ∀ k, k < (allF M).length → (classF M L)[k]? = some (k : Int)) : enoughF M L = true := by
  unfold enoughF
  rw [decide_eq_true_iff]
  exact h

set_option maxHeartbeats 800000 in
theorem Enough_c (w : World) (ht : Tab w) (a : Option Addr) (n cap : Nat) (M : Mask) (hn : M.length = n) (hm : n ≤ maxLen) (H : RowsAt w a M) (a2 : Option Addr) (n2 cap2 : Nat) (L : List (List Int)) (hn2 : L.length = n2) (hm2 : n2 ≤ maxLen) (H2 : RowsAt w a2 L) :
    Calls Tryz.prog 24 #[.slice a n cap, .slice a2 n2 cap2] w fun e w' => e = .returned (.tuple #[.bool (enoughB M L), .int .i64 (listedE M L)]) ∧ Below w.heap.size w w' := by
  have HV := hid (flisted_c w a n cap M hn hm H a2 n2 cap2 L hn2 hm2 H2)
  by_cases h1 : listedE M L = 0
  · obtain ⟨h2, h3⟩ := listedE_ok h1
    obtain ⟨h4, h5⟩ := picsB_iff h3
    have HA := hid (fun (W : World) (hb : Below w.heap.size w W) => classes_c W (ht.below hb) a n cap M hn (H.below hb) h2 a2 n2 cap2 L hn2 (by omega) (H2.below hb) h5)
    have HE := hid (show enoughB M L = enoughF M L by unfold enoughB; rw [h1]; simp)
    have hA240 := all_240 h2
    have HCL := hid (classF_length M L)
    have HS := hid (fun k => @enough_stop M L k)
    have HD := hid (@enough_done M L)
    rw [h1] at HV ⊢
    clear h1 h2 h3 h4 h5 hn H hn2 H2 ht
    go_enter Tryz.func24, Tryz.ntmps24
    go_wp2_with (first | (go_at_call 47; refine HV.out.mono ?_; rintro e w1 ⟨rfl, hb1⟩) | (go_at_call 48; refine (HA.out _ hb1).mono ?_; rintro e w2 ⟨v, base, rfl, hbase, hF, hb2⟩; refine Stop.of ?_))
    refine Stop.go ?_
    obtain ⟨va, vc, rfl, hI⟩ := ints_own hF HCL.out
    obtain ⟨N, hN⟩ : ∃ N, N = (allF M).length := ⟨_, rfl⟩
    rw [← hN] at hA240 HCL ⊢
    have HN := hid hN
    have HI := hid hI
    have HB := hid (chain hb1 hb2)
    clear hN hI hF hb1 hb2 hbase
    go_wp2
    go_loop [19] (fun i => ∃ k : Nat, k ≤ N ∧ i = .int .i64 k ∧ Hid (∀ j, j < k → (classF M L)[j]? = some (j : Int))) (fun i => N - (intOf i).toNat)
    case atStart => exact ⟨0, Nat.zero_le _, rfl, hid (fun j hj => by omega)⟩
    case round =>
      obtain ⟨k, hk, rfl, hS⟩ := hrel
      by_cases hlt : k < N
      · obtain ⟨b, off, rfl, hbs, hc⟩ := HI.out k (by rw [HCL.out]; exact hlt)
        obtain ⟨X, hX⟩ : ∃ X, X = (classF M L)[k]?.getD 0 := ⟨_, rfl⟩
        rw [← hX] at hc
        have hget : (classF M L)[k]? = some X := by rw [hX]; exact getD_lt (by rw [HCL.out]; exact hlt)
        have HG := hid hget
        clear hX hget
        by_cases e : X = (k : Int)
        · subst e
          go_wp2
          go_round
          case rel => exact ⟨k + 1, by omega, by go_num, hid (fun j hj => by
            rcases Nat.lt_or_ge j k with h | h
            · exact hS.out j h
            · obtain rfl : j = k := by omega
              exact HG.out)⟩
          case measure => simp [intOf]; omega
        · have e2 : (X != (k : Int)) = true := by simpa using e
          have HQ := hid e
          clear e
          go_wp2
          go_ret2
          refine ⟨?_, HB.out⟩
          rw [HE.out, HS.out k (by rw [← HN.out]; exact hlt) (by rw [HG.out]; intro h; exact HQ.out (by simpa using h))]
          rfl
      · obtain rfl : k = N := by omega
        go_wp2
        go_ret2
        refine ⟨?_, HB.out⟩
        rw [HE.out, HD.out (fun j hj => hS.out j (by rw [HN.out]; exact hj))]
        rfl
  · have HE := hid (show enoughB M L = false by unfold enoughB; simp [h1])
    obtain ⟨E, hE⟩ : ∃ E, E = listedE M L := ⟨_, rfl⟩
    rw [← hE] at HV ⊢ h1
    have h6 : (E != 0) = true := by simpa using h1
    clear h1 hE hn H hn2 H2 ht
    go_enter Tryz.func24, Tryz.ntmps24
    go_wp2_with (go_at_call 47; refine HV.out.mono ?_; rintro e w1 ⟨rfl, hb1⟩)
    go_ret2
    exact ⟨by rw [HE.out]; rfl, hb1⟩
end Go.Proofs.YthaampmdponhbaaGreatDoor

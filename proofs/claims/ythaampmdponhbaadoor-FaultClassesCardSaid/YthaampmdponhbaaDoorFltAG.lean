/- Walks of the reference: Classes, Enough. -/
import Derived.Test.YthaampmdponhbaaDoorFltAF
namespace Go.Proofs.YthaampmdponhbaaDoor
open Go.RowKit Go.Maps
set_option linter.unusedVariables false

theorem refClasses2_c (w : World) (a : Option Addr) (n cap : Nat) (M : Mask) (hn : M.length = n) (hm : n ≤ maxLen) (H : RowsAt w a M) (a2 : Option Addr) (n2 cap2 : Nat) (L : List (List Int)) (hn2 : L.length = n2) (hm2 : n2 ≤ maxLen) (H2 : RowsAt w a2 L) :
    Calls Tryd.prog 19 #[.slice a n cap, .slice a2 n2 cap2] w fun e w' => ∃ v base, e = .returned (.tuple #[v, .int .i64 (listedE M L)]) ∧ w.heap.size ≤ base ∧ w'.ownsRow base 3 1 v (clsL M L).length ((clsL M L).map (Value.int .i64)) ∧ Below w.heap.size w w' := by
  have HV := hid (asked_c w a n cap M hn hm H a2 n2 cap2 L hn2 hm2 H2)
  by_cases h1 : listedE M L = 0
  · obtain ⟨h2, h3⟩ := listedE_ok h1
    obtain ⟨h4, h5⟩ := picsB_iff h3
    have HA := hid (fun (W : World) (hb : Below w.heap.size w W) => refClasses_c W a n cap M hn (H.below hb) h2 a2 n2 cap2 L hn2 (by omega) (H2.below hb) h5)
    have HE := hid (show clsL M L = classF M L by unfold clsL; rw [if_pos h1])
    rw [h1] at HV ⊢
    clear h1 h2 h3 h4 h5 hn H hn2 H2
    go_enter Tryd.func19, Tryd.ntmps19
    go_wp2_with (first | (go_at_call 48; refine HV.out.mono ?_; rintro e w1 ⟨rfl, rfl⟩; have hb1 := Below.refl w.heap.size w) | (go_at_call 49; refine (HA.out _ hb1).mono ?_; rintro e w2 ⟨v, base, rfl, hbase, hF, hb2⟩))
    go_ret2
    refine ⟨v, base, rfl, Nat.le_trans hb1.size hbase, ?_, chain hb1 hb2⟩
    rw [HE.out, classF_length]
    exact hF
  · have HE := hid (show clsL M L = [] by unfold clsL; rw [if_neg h1])
    obtain ⟨E, hE⟩ : ∃ E, E = listedE M L := ⟨_, rfl⟩
    rw [← hE] at HV ⊢ h1
    have h6 : (E != 0) = true := by simpa using h1
    clear h1 hE hn H hn2 H2
    go_enter Tryd.func19, Tryd.ntmps19
    go_wp2_with (go_at_call 48; refine HV.out.mono ?_; rintro e w1 ⟨rfl, rfl⟩; have hb1 := Below.refl w.heap.size w)
    go_ret2
    refine ⟨.slice none 0 0, w.heap.size, rfl, hb1.size, ?_, hb1⟩
    rw [HE.out]
    exact World.ownsRow_nil _ _ _ _

set_option maxHeartbeats 800000 in
theorem refEnough_c (w : World) (a : Option Addr) (n cap : Nat) (M : Mask) (hn : M.length = n) (hm : n ≤ maxLen) (H : RowsAt w a M) (a2 : Option Addr) (n2 cap2 : Nat) (L : List (List Int)) (hn2 : L.length = n2) (hm2 : n2 ≤ maxLen) (H2 : RowsAt w a2 L) :
    Calls Tryd.prog 20 #[.slice a n cap, .slice a2 n2 cap2] w fun e w' => e = .returned (.tuple #[.bool (enoughB M L), .int .i64 (listedE M L)]) ∧ Below w.heap.size w w' := by
  have HV := hid (asked_c w a n cap M hn hm H a2 n2 cap2 L hn2 hm2 H2)
  by_cases h1 : listedE M L = 0
  · obtain ⟨h2, h3⟩ := listedE_ok h1
    obtain ⟨h4, h5⟩ := picsB_iff h3
    have HA := hid (fun (W : World) (hb : Below w.heap.size w W) => refClasses_c W a n cap M hn (H.below hb) h2 a2 n2 cap2 L hn2 (by omega) (H2.below hb) h5)
    have HE := hid (show enoughB M L = enoughF M L by unfold enoughB; rw [h1]; simp)
    have hA240 := all_240 h2
    have HCL := hid (classF_length M L)
    have HS := hid (fun k => @enough_stop M L k)
    have HD := hid (@enough_done M L)
    rw [h1] at HV ⊢
    clear h1 h2 h3 h4 h5 hn H hn2 H2
    go_enter Tryd.func20, Tryd.ntmps20
    go_wp2_with (first | (go_at_call 48; refine HV.out.mono ?_; rintro e w1 ⟨rfl, rfl⟩; have hb1 := Below.refl w.heap.size w) | (go_at_call 49; refine (HA.out _ hb1).mono ?_; rintro e w2 ⟨v, base, rfl, hbase, hF, hb2⟩; refine Stop.of ?_))
    refine Stop.go ?_
    obtain ⟨va, vc, rfl, hI⟩ := ints_own hF HCL.out
    obtain ⟨N, hN⟩ : ∃ N, N = (allF M).length := ⟨_, rfl⟩
    rw [← hN] at hA240 HCL ⊢
    have HN := hid hN
    have HI := hid hI
    have HB := hid (chain hb1 hb2)
    clear hN hI hF hb1 hb2 hbase
    go_wp2
    go_loop [19] (fun i => ∃ k : Nat, k ≤ N ∧ i = .int .i64 k ∧ Hid (∀ j, j < k → (classF M L)[j]? = some (j : Int))) (fun i => N - (intOf i).toNat)
    case atStart => exact ⟨0, Nat.zero_le _, rfl, hid (fun j hj => by omega)⟩
    case round =>
      obtain ⟨k, hk, rfl, hS⟩ := hrel
      by_cases hlt : k < N
      · obtain ⟨b, off, rfl, hbs, hc⟩ := HI.out k (by rw [HCL.out]; exact hlt)
        obtain ⟨X, hX⟩ : ∃ X, X = (classF M L)[k]?.getD 0 := ⟨_, rfl⟩
        rw [← hX] at hc
        have hget : (classF M L)[k]? = some X := by rw [hX]; exact getD_lt (by rw [HCL.out]; exact hlt)
        have HG := hid hget
        clear hX hget
        by_cases e : X = (k : Int)
        · subst e
          go_wp2
          go_round
          case rel => exact ⟨k + 1, by omega, by go_num, hid (fun j hj => by
            rcases Nat.lt_or_ge j k with h | h
            · exact hS.out j h
            · obtain rfl : j = k := by omega
              exact HG.out)⟩
          case measure => simp [intOf]; omega
        · have e2 : (X != (k : Int)) = true := by simpa using e
          have HQ := hid e
          clear e
          go_wp2
          go_ret2
          refine ⟨?_, HB.out⟩
          rw [HE.out, HS.out k (by rw [← HN.out]; exact hlt) (by rw [HG.out]; intro h; exact HQ.out (by simpa using h))]
          rfl
      · obtain rfl : k = N := by omega
        go_wp2
        go_ret2
        refine ⟨?_, HB.out⟩
        rw [HE.out, HD.out (fun j hj => hS.out j (by rw [HN.out]; exact hj))]
        rfl
  · have HE := hid (show enoughB M L = false by unfold enoughB; simp [h1])
    obtain ⟨E, hE⟩ : ∃ E, E = listedE M L := ⟨_, rfl⟩
    rw [← hE] at HV ⊢ h1
    have h6 : (E != 0) = true := by simpa using h1
    clear h1 hE hn H hn2 H2
    go_enter Tryd.func20, Tryd.ntmps20
    go_wp2_with (go_at_call 48; refine HV.out.mono ?_; rintro e w1 ⟨rfl, rfl⟩; have hb1 := Below.refl w.heap.size w)
    go_ret2
    exact ⟨by rw [HE.out]; rfl, hb1⟩
end Go.Proofs.YthaampmdponhbaaDoor

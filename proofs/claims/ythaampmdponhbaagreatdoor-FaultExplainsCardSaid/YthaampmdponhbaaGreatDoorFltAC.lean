/- Walks: the law's small and lists; the reference's shown and asked. -/
import Derived.Test.YthaampmdponhbaaGreatDoorFltAB
namespace Go.Proofs.YthaampmdponhbaaGreatDoor
open Go.RowKit
set_option linter.unusedVariables false

def lenTo (M : Mask) : Nat → Int
  | 0 => 0
  | k + 1 => wrap64 (lenTo M k + (M[k]?.getD []).length)
/-- a mask that has few enough faults -/
def smallB (M : Mask) : Bool := fitM M && decide (lenTo M M.length ≤ 20)

theorem small_c (w : World) (a : Option Addr) (n cap : Nat) (M : Mask) (hn : M.length = n) (hm : n ≤ maxLen) (H : RowsAt w a M) :
    Calls Tryz.prog 17 #[.slice a n cap] w fun e w' => e = .returned (.bool (smallB M)) ∧ w = w' := by
  have HF := hid (fit_c w a n cap M hn hm H)
  have HN := hid hn
  have HH := hid H
  unfold maxLen at hm
  clear hn H
  go_enter Tryz.func17, Tryz.ntmps17
  go_wp2
  go_loop [3, 8] (fun s i => ∃ k : Nat, k ≤ n ∧ i = .int .i64 k ∧ s = .int .i64 (lenTo M k)) (fun _ i => n - (intOf i).toNat)
  case atStart => exact ⟨0, Nat.zero_le _, rfl, rfl⟩
  case round =>
    obtain ⟨k, hk, rfl, rfl⟩ := hrel
    by_cases hlt : k < n
    · have hkM : k < M.length := by rw [HN.out]; exact hlt
      obtain ⟨b, off, ra, rn, rc, rfl, hbs, hc, hrn, hrm, hri⟩ := HH.out k hkM
      have hs : lenTo M (k + 1) = wrap64 (lenTo M k + (rn : Int)) := by rw [← hrn]; show wrap64 _ = _; rw [List.getElem?_eq_getElem hkM]; rfl
      have HS := hid hs
      obtain ⟨S, hS⟩ : ∃ S, S = lenTo M k := ⟨_, rfl⟩
      rw [← hS] at HS ⊢
      clear hri hrn hs hS
      go_wp2
      go_round
      case rel => exact ⟨k + 1, by omega, by go_num, by rw [HS.out]⟩
      case measure => simp [intOf]; omega
    · obtain rfl : k = n := by omega
      have HE := hid (show smallB M = (fitM M && decide (lenTo M k ≤ 20)) by unfold smallB; rw [HN.out])
      obtain ⟨S, hS⟩ : ∃ S, S = lenTo M k := ⟨_, rfl⟩
      rw [← hS] at HE ⊢
      clear hS
      cases h1 : fitM M
      · rw [h1] at HF HE
        clear h1
        go_wp2_with (go_at_call 6; refine HF.out.mono ?_; rintro e w1 ⟨rfl, rfl⟩)
        go_ret
        exact ⟨ret_bool (by rw [HE.out]; rfl), rfl⟩
      · rw [h1] at HF HE
        clear h1
        go_wp2_with (go_at_call 6; refine HF.out.mono ?_; rintro e w1 ⟨rfl, rfl⟩)
        go_ret
        exact ⟨ret_bool (by rw [HE.out, Bool.true_and]), rfl⟩

/-- lists that are few and short -/
def fitL (L : List (List Int)) (most : Int) : Bool := L.all (fun x => decide (x.length ≤ 20)) && (decide ((L.length : Int) ≤ most) || (decide (12 < L.length) && decide (L.length < 15)))
theorem lists_c (w : World) (a2 : Option Addr) (n2 cap2 : Nat) (L : List (List Int)) (hn2 : L.length = n2) (hm2 : n2 ≤ maxLen) (H2 : RowsAt w a2 L) (most : Nat) (hmost : most ≤ 12) :
    Calls Tryz.prog 18 #[.slice a2 n2 cap2, .int .i64 most] w fun e w' => e = .returned (.bool (fitL L most)) ∧ w = w' := by
  have HN2 := hid hn2
  have HH2 := hid H2
  have HE := hid (show fitL L most = (L.all (fun x => decide (x.length ≤ 20)) && (decide ((n2 : Int) ≤ most) || (decide (12 < n2) && decide (n2 < 15)))) by unfold fitL; rw [hn2])
  unfold maxLen at hm2
  clear hn2 H2
  go_enter Tryz.func18, Tryz.ntmps18
  go_wp2
  go_loop [9] (fun i => ∃ k : Nat, k ≤ n2 ∧ i = .int .i64 k ∧ Hid (∀ j (hj : j < L.length), j < k → decide (L[j].length ≤ 20) = true)) (fun i => n2 - (intOf i).toNat)
  case atStart => exact ⟨0, Nat.zero_le _, rfl, hid (fun j _ h => by omega)⟩
  case round =>
    obtain ⟨k, hk, rfl, hno⟩ := hrel
    by_cases hlt : k < n2
    · have hkl : k < L.length := by rw [HN2.out]; exact hlt
      obtain ⟨b, off, ra, rn, rc, rfl, hbs, hc, hrn, hrm, hri⟩ := HH2.out k hkl
      have HRN := hid hrn
      have HKL := hid hkl
      unfold maxLen at hrm
      clear hrn hri
      by_cases h20 : rn ≤ 20
      · go_wp2
        go_round
        case rel => exact ⟨k + 1, by omega, by go_num, hid (fun j hj hjk => by
          rcases Nat.lt_or_ge j k with h | h
          · exact hno.out j hj h
          · obtain rfl : j = k := by omega
            rw [HRN.out]; simpa using h20)⟩
        case measure => simp [intOf]; omega
      · go_wp2
        go_ret
        exact ⟨ret_bool (by rw [HE.out, all_stop (p := fun x : List Int => decide (x.length ≤ 20)) HKL.out (by rw [HRN.out]; simpa using h20)]; rfl), rfl⟩
    · obtain rfl : k = n2 := by omega
      have hall : L.all (fun x => decide (x.length ≤ 20)) = true := all_done (fun j hj => hno.out j hj (by rw [← HN2.out]; exact hj))
      have HE2 := hid (show fitL L most = (decide ((k : Int) ≤ most) || (decide (12 < k) && decide (k < 15))) by rw [HE.out, hall, Bool.true_and])
      clear hall hno
      by_cases h1 : k ≤ most
      · have h1' : (k : Int) ≤ (most : Int) := by omega
        go_wp2
        go_ret
        exact ⟨ret_bool (by rw [HE2.out, Bool.eq_iff_iff]; simp; omega), rfl⟩
      · have h1' : ¬ (k : Int) ≤ (most : Int) := by omega
        by_cases h2 : 12 < k
        · have h2' : (12 : Int) < (k : Int) := by omega
          go_wp2
          go_ret
          exact ⟨ret_bool (by rw [HE2.out, Bool.eq_iff_iff]; simp; omega), rfl⟩
        · have h2' : ¬ (12 : Int) < (k : Int) := by omega
          go_wp2
          go_ret
          exact ⟨ret_bool (by rw [HE2.out, Bool.eq_iff_iff]; simp; omega), rfl⟩

theorem refShown_c (w : World) (a : Option Addr) (n cap : Nat) (M : Mask) (hn : M.length = n) (hm : n ≤ maxLen) (H : RowsAt w a M) (a2 : Option Addr) (n2 cap2 : Nat) (L : List (List Int)) (hn2 : L.length = n2) (hm2 : n2 ≤ maxLen) (H2 : RowsAt w a2 L) :
    Calls Tryz.prog 41 #[.slice a n cap, .slice a2 n2 cap2] w fun e w' => e = .returned (.bool (picsB M L)) ∧ w = w' := by
  have HSh := hid (fun (xa : Option Addr) (xn xc : Nat) (x : List Int) (hx : x.length = xn) (hxm : xn ≤ maxLen) (hxi : IntsAt w xa x) => r2Shown_c w a n cap M hn hm H xa xn xc x hx hxm hxi)
  have HN2 := hid hn2
  have HH2 := hid H2
  have HE := hid (show picsB M L = (decide (n2 ≤ 12) && L.all (okShown M)) by unfold picsB; rw [hn2])
  unfold maxLen at hm2
  clear hn2 H2 hn H
  go_enter Tryz.func41, Tryz.ntmps41
  go_wp2
  go_loop [9] (fun i => ∃ k : Nat, k ≤ n2 ∧ i = .int .i64 k ∧ Hid (∀ j (hj : j < L.length), j < k → okShown M L[j] = true)) (fun i => n2 - (intOf i).toNat)
  case atStart => exact ⟨0, Nat.zero_le _, rfl, hid (fun j _ h => by omega)⟩
  case round =>
    obtain ⟨k, hk, rfl, hno⟩ := hrel
    by_cases hlt : k < n2
    · have hkl : k < L.length := by rw [HN2.out]; exact hlt
      obtain ⟨b, off, ra, rn, rc, rfl, hbs, hc, hrn, hrm, hri⟩ := HH2.out k hkl
      have HS := hid (HSh.out ra rn rc L[k] hrn hrm hri)
      have HKL := hid hkl
      clear hrn hri
      cases h : okShown M (L[k]'hkl)
      · rw [h] at HS
        have HX := hid h
        clear h
        go_wp2_with (go_at_call 71; refine HS.out.mono ?_; rintro e w1 ⟨rfl, rfl⟩)
        go_ret
        exact ⟨ret_bool (by rw [HE.out, all_stop HKL.out HX.out]; simp), rfl⟩
      · rw [h] at HS
        have HX := hid h
        clear h
        go_wp2_with (go_at_call 71; refine HS.out.mono ?_; rintro e w1 ⟨rfl, rfl⟩)
        go_round
        case rel => exact ⟨k + 1, by omega, by go_num, hid (fun j hj hjk => by
          rcases Nat.lt_or_ge j k with h | h
          · exact hno.out j hj h
          · obtain rfl : j = k := by omega
            exact HX.out)⟩
        case measure => simp [intOf]; omega
    · obtain rfl : k = n2 := by omega
      have hall : L.all (okShown M) = true := all_done (fun j hj => hno.out j hj (by rw [← HN2.out]; exact hj))
      have HE2 := hid (show picsB M L = decide (k ≤ 12) by rw [HE.out, hall, Bool.and_true])
      clear hall hno
      go_wp2
      go_ret
      exact ⟨ret_bool (by rw [HE2.out, Bool.eq_iff_iff]; simp; omega), rfl⟩

end Go.Proofs.YthaampmdponhbaaGreatDoor

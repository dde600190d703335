/- Walks of the reference's masks: within, row, Valid, listed, Shown; SameInts; Units of both; pictures, listed. -/
import Derived.Test.YthaampmdponhbaaGreatDoorFltM
import Derived.Test.YthaampmdponhbaaGreatDoorMapS
namespace Go.Proofs.YthaampmdponhbaaGreatDoor
open Go.RowKit
set_option linter.unusedVariables false

theorem r2within_c (n lo hi : Int) (w : World) : Calls Tryz.prog 100 #[.int .i64 n, .int .i64 lo, .int .i64 hi] w fun e w' => e = .returned (.bool (inB n lo hi)) ∧ w = w' := by
  by_cases h1 : lo ≤ n <;> by_cases h2 : n ≤ hi
  all_goals
    go_enter Tryz.func100, Tryz.ntmps100
    go_wp2
    go_ret
    exact ⟨ret_bool (by simp [inB, h1, h2]), rfl⟩
theorem r9in_c (n lo hi : Int) (w : World) : Calls Tryz.prog 70 #[.int .i64 n, .int .i64 lo, .int .i64 hi] w fun e w' => e = .returned (.bool (inB n lo hi)) ∧ w = w' := by
  by_cases h1 : lo ≤ n <;> by_cases h2 : n ≤ hi
  all_goals
    go_enter Tryz.func70, Tryz.ntmps70
    go_wp2
    go_ret
    exact ⟨ret_bool (by simp [inB, h1, h2]), rfl⟩

theorem all_stop {α : Type} {p : α → Bool} {l : List α} {k : Nat} (hk : k < l.length) (h : p l[k] = false) : l.all p = false := by
  rw [List.all_eq_false]; exact ⟨l[k], List.getElem_mem hk, by simp [h]⟩
theorem all_done {α : Type} {p : α → Bool} {l : List α} (h : ∀ j (hj : j < l.length), p l[j] = true) : l.all p = true := by
  rw [List.all_eq_true]
  intro x hx
  obtain ⟨i, hi, e⟩ := List.getElem_of_mem hx
  rw [← e]; exact h i hi

theorem r2row_c (w : World) (a : Option Addr) (n cap : Nat) (l : List Int) (hn : l.length = n) (hm : n ≤ maxLen) (H : IntsAt w a l) :
    Calls Tryz.prog 99 #[.slice a n cap] w fun e w' => e = .returned (.bool (okMRow l)) ∧ w = w' := by
  have HN := hid hn
  have HH := hid H
  clear hn H
  unfold maxLen at hm
  go_enter Tryz.func99, Tryz.ntmps99
  go_wp2
  go_loop [7] (fun i => ∃ k : Nat, k ≤ n ∧ i = .int .i64 k ∧ ∀ j (hj : j < l.length), j < k → inB l[j] (-1) 1 = true) (fun i => n - (intOf i).toNat)
  case atStart => exact ⟨0, Nat.zero_le _, rfl, fun i _ h => by omega⟩
  case round =>
    obtain ⟨k, hk, rfl, hno⟩ := hrel
    have HNO := hid hno
    clear hno
    by_cases hlt : k < n
    · have hkl : k < l.length := by rw [HN.out]; exact hlt
      obtain ⟨b, off, rfl, hbs, hc⟩ := HH.out k hkl
      have hg : l[k]?.getD 0 = l[k] := by rw [List.getElem?_eq_getElem hkl]; rfl
      rw [hg] at hc
      obtain ⟨B, hB⟩ : ∃ B, B = inB l[k] (-1) 1 := ⟨_, rfl⟩
      have HW := hid (fun W => r2within_c l[k] (-1) 1 W)
      rw [← hB] at HW
      have HBB := hid hB
      have HKL := hid hkl
      clear hg hB
      cases B
      · go_wp2_with (go_at_call 100; refine (HW.out _).mono ?_; rintro e w1 ⟨rfl, rfl⟩)
        go_ret
        refine ⟨ret_bool ?_, rfl⟩
        unfold okMRow
        rw [all_stop HKL.out HBB.out.symm]; simp
      · go_wp2_with (go_at_call 100; refine (HW.out _).mono ?_; rintro e w1 ⟨rfl, rfl⟩)
        go_round
        case rel =>
          refine ⟨k + 1, by omega, by go_num, fun j hj hjk => ?_⟩
          by_cases e : j = k
          · subst e; exact HBB.out.symm
          · exact HNO.out j hj (by omega)
        case measure => simp [intOf]; omega
    · go_wp2_with (go_at_call 100; refine (r2within_c _ _ _ _).mono ?_; rintro e w1 ⟨rfl, rfl⟩)
      go_ret
      refine ⟨ret_bool ?_, rfl⟩
      unfold okMRow
      rw [HN.out, all_done (fun j hj => HNO.out j hj (by have := HN.out; omega))]; simp

theorem r2Valid_c (w : World) (a : Option Addr) (n cap : Nat) (M : Mask) (hn : M.length = n) (hm : n ≤ maxLen) (H : RowsAt w a M) :
    Calls Tryz.prog 69 #[.slice a n cap] w fun e w' => e = .returned (.bool (okM M)) ∧ w = w' := by
  have HN := hid hn
  have HH := hid H
  clear hn H
  unfold maxLen at hm
  go_enter Tryz.func69, Tryz.ntmps69
  go_wp2
  go_loop [7] (fun i => ∃ k : Nat, k ≤ n ∧ i = .int .i64 k ∧ ∀ j (hj : j < M.length), j < k → (decide (M[j].length = colsM M) && okMRow M[j]) = true) (fun i => n - (intOf i).toNat)
  case atStart => exact ⟨0, Nat.zero_le _, rfl, fun i _ h => by omega⟩
  case round =>
    obtain ⟨k, hk, rfl, hno⟩ := hrel
    have HNO := hid hno
    clear hno
    by_cases hlt : k < n
    · have hkl : k < M.length := by rw [HN.out]; exact hlt
      obtain ⟨b, off, ra, rn, rc, rfl, hbs, hc, hrn, hrm, hri⟩ := HH.out k hkl
      obtain ⟨b', off', qa, qn, qc, e0, hbs', hc0, hqn, _, _⟩ := HH.out 0 (by omega)
      cases e0
      rw [Nat.add_zero] at hc0
      have hcol : colsM M = qn := by unfold colsM; rw [List.getElem?_eq_getElem (by omega), ← hqn]; rfl
      have HW := hid (r2row_c w ra rn rc M[k] hrn hrm hri)
      obtain ⟨B, hB⟩ : ∃ B, B = okMRow M[k] := ⟨_, rfl⟩
      rw [← hB] at HW
      have HBB := hid hB
      have HKL := hid hkl
      have HCol := hid hcol
      have HRN := hid hrn
      unfold maxLen at hrm
      have h0 : 0 < n := by omega
      clear hB hcol hrn hqn hri
      cases B
      · go_wp2_with (go_at_call 99; refine HW.out.mono ?_; rintro e w1 ⟨rfl, rfl⟩)
        go_ret
        refine ⟨ret_bool ?_, rfl⟩
        unfold okM
        rw [all_stop HKL.out (by rw [← HBB.out]; simp)]; simp
      · by_cases hq : rn = qn
        · have hd : ((rn : Int) != (qn : Int)) = false := by simp [hq]
          have HQ := hid hq
          clear hq
          go_wp2_with (go_at_call 99; refine HW.out.mono ?_; rintro e w1 ⟨rfl, rfl⟩)
          go_round
          case rel =>
            refine ⟨k + 1, by omega, by go_num, fun j hj hjk => ?_⟩
            by_cases e : j = k
            · subst e; rw [← HBB.out, HCol.out, HRN.out, HQ.out]; simp
            · exact HNO.out j hj (by omega)
          case measure => simp [intOf]; omega
        · have hd : ((rn : Int) != (qn : Int)) = true := by simp; omega
          have HQ := hid hq
          clear hq
          go_wp2_with (go_at_call 99; refine HW.out.mono ?_; rintro e w1 ⟨rfl, rfl⟩)
          go_ret
          refine ⟨ret_bool ?_, rfl⟩
          unfold okM
          rw [all_stop HKL.out (by rw [HCol.out, HRN.out]; simp [HQ.out])]; simp
    · go_wp2_with (go_at_call 100; refine (r2within_c _ _ _ _).mono ?_; rintro e w1 ⟨rfl, rfl⟩)
      go_ret
      refine ⟨ret_bool ?_, rfl⟩
      unfold okM
      rw [HN.out, all_done (fun j hj => HNO.out j hj (by have := HN.out; omega))]; simp

/-- the error of a list of so many numbers up to a bound -/
def listE (l : List Int) (len most : Int) : Int := if (l.length : Int) = len then (if l.all (fun n => inB n (-most) most) = true then 0 else 7) else 9

theorem r2listed_c (w : World) (a : Option Addr) (n cap : Nat) (l : List Int) (hn : l.length = n) (hm : n ≤ maxLen) (H : IntsAt w a l) (len most : Int) (h0 : 0 ≤ most) (h9 : most ≤ 1000000000) :
    Calls Tryz.prog 101 #[.slice a n cap, .int .i64 len, .int .i64 most] w fun e w' => e = .returned (.int .i64 (listE l len most)) ∧ w = w' := by
  have HN := hid hn
  have HH := hid H
  clear hn H
  unfold maxLen at hm
  by_cases hl : (n : Int) = len
  · have hd : ((n : Int) != len) = false := by simp [hl]
    have HL := hid hl
    clear hl
    go_enter Tryz.func101, Tryz.ntmps101
    go_wp2
    go_loop [15] (fun i => ∃ k : Nat, k ≤ n ∧ i = .int .i64 k ∧ ∀ j (hj : j < l.length), j < k → inB l[j] (-most) most = true) (fun i => n - (intOf i).toNat)
    case atStart => exact ⟨0, Nat.zero_le _, rfl, fun i _ h => by omega⟩
    case round =>
      obtain ⟨k, hk, rfl, hno⟩ := hrel
      have HNO := hid hno
      clear hno
      by_cases hlt : k < n
      · have hkl : k < l.length := by rw [HN.out]; exact hlt
        obtain ⟨b, off, rfl, hbs, hc⟩ := HH.out k hkl
        have hg : l[k]?.getD 0 = l[k] := by rw [List.getElem?_eq_getElem hkl]; rfl
        rw [hg] at hc
        obtain ⟨B, hB⟩ : ∃ B, B = inB l[k] (-most) most := ⟨_, rfl⟩
        have HW := hid (fun W => r2within_c l[k] (-most) most W)
        rw [← hB] at HW
        have HBB := hid hB
        have HKL := hid hkl
        clear hg hB
        cases B
        · go_wp2_with (go_at_call 100; refine (HW.out _).mono ?_; rintro e w1 ⟨rfl, rfl⟩)
          go_ret
          refine ⟨ret_int ?_, rfl⟩
          unfold listE
          rw [all_stop HKL.out HBB.out.symm, HN.out, if_pos HL.out]; simp
        · go_wp2_with (go_at_call 100; refine (HW.out _).mono ?_; rintro e w1 ⟨rfl, rfl⟩)
          go_round
          case rel =>
            refine ⟨k + 1, by omega, by go_num, fun j hj hjk => ?_⟩
            by_cases e : j = k
            · subst e; exact HBB.out.symm
            · exact HNO.out j hj (by omega)
          case measure => simp [intOf]; omega
      · go_wp2
        go_ret
        refine ⟨ret_int ?_, rfl⟩
        unfold listE
        rw [HN.out, if_pos HL.out, all_done (fun j hj => HNO.out j hj (by have := HN.out; omega))]; simp
  · have hd : ((n : Int) != len) = true := by simp [hl]
    have HL := hid hl
    clear hl
    go_enter Tryz.func101, Tryz.ntmps101
    go_wp2
    go_ret
    exact ⟨ret_int (by unfold listE; rw [HN.out, if_neg HL.out]), rfl⟩

theorem listE_shown {M : Mask} (hM : okM M = true) (x : List Int) : listE x (colsM M) 1000000 = shownE M x := by
  unfold listE shownE
  rw [if_pos hM]
  by_cases h : x.length = colsM M
  · rw [if_pos (by omega), if_pos h]
  · rw [if_neg (by omega), if_neg h]

theorem r2Shown_c (w : World) (a : Option Addr) (n cap : Nat) (M : Mask) (hn : M.length = n) (hm : n ≤ maxLen) (H : RowsAt w a M) (a2 : Option Addr) (n2 cap2 : Nat) (x : List Int) (hn2 : x.length = n2) (hm2 : n2 ≤ maxLen) (H2 : IntsAt w a2 x) :
    Calls Tryz.prog 71 #[.slice a n cap, .slice a2 n2 cap2] w fun e w' => e = .returned (.bool (okShown M x)) ∧ w = w' := by
  have HV := hid (r2Valid_c w a n cap M hn hm H)
  cases hv : okM M
  · rw [hv] at HV
    have HE := hid hv
    clear hv hn H hn2 H2
    go_enter Tryz.func71, Tryz.ntmps71
    go_wp2_with (go_at_call 69; refine HV.out.mono ?_; rintro e w1 ⟨rfl, rfl⟩)
    go_ret
    exact ⟨ret_bool (by unfold okShown; rw [HE.out]; simp), rfl⟩
  · rw [hv] at HV
    obtain ⟨m1, m6, c1, c10, _⟩ := okM_len hv
    obtain ⟨b', off', qa, qn, qc, rfl, hbs', hc0, hqn, hqm, hqi⟩ := H 0 (by omega)
    rw [Nat.add_zero] at hc0
    have hcol : colsM M = qn := by unfold colsM; rw [List.getElem?_eq_getElem (by omega), ← hqn]; rfl
    have HL := hid (r2listed_c w a2 n2 cap2 x hn2 hm2 H2 (qn : Int) 1000000 (by omega) (by omega))
    have he := listE_shown hv x
    rw [hcol] at he
    rw [he] at HL
    have HS := hid (okShown_iff M x)
    obtain ⟨E, hE⟩ : ∃ E, E = shownE M x := ⟨_, rfl⟩
    rw [← hE] at HL HS
    have h0 : 0 < n := by omega
    have hn6 : n ≤ 6 := by omega
    have hq10 : qn ≤ 10 := by omega
    clear hv hn H hn2 H2 he hcol hqn hqm hqi hE
    go_enter Tryz.func71, Tryz.ntmps71
    go_wp2_with (first | (go_at_call 69; refine HV.out.mono ?_; rintro e w1 ⟨rfl, rfl⟩) | (go_at_call 101; refine HL.out.mono ?_; rintro e w1 ⟨rfl, rfl⟩))
    go_ret
    exact ⟨ret_bool (by rw [← HS.out]), rfl⟩

theorem drewN_add (w : World) (a b : Nat) : (w.drewN a).drewN b = w.drewN (a + b) := by simp [World.drewN, Nat.add_assoc]

theorem sameInts_c (w : World) (a a2 : Option Addr) (n cap n2 cap2 : Nat) (l l2 : List Int) (hn : l.length = n) (hn2 : l2.length = n2) (hm : n ≤ maxLen) (hm2 : n2 ≤ maxLen) (H : IntsAt w a l) (H2 : IntsAt w a2 l2) :
    Calls Tryz.prog 46 #[.slice a n cap, .slice a2 n2 cap2] w fun e w' => e = .returned (.bool (decide (l = l2))) ∧ ∃ k, w' = w.drewN k := by
  have HN := hid hn
  have HN2 := hid hn2
  have HH := hid H
  have HH2 := hid H2
  clear hn hn2 H H2
  unfold maxLen at hm hm2
  by_cases hl : n = n2
  · have hd : ((n : Int) != (n2 : Int)) = false := by simp [hl]
    have HL := hid hl
    clear hl
    go_enter Tryz.func46, Tryz.ntmps46
    go_wp2
    go_loopw [13] (fun i wr => ∃ k : Nat, k ≤ n ∧ i = .int .i64 k ∧ (∃ q, wr = w.drewN q) ∧ ∀ j (hj : j < l.length) (hj2 : j < l2.length), j < k → l[j] = l2[j]) (fun i _ => n - (intOf i).toNat)
    case atStart => exact ⟨0, Nat.zero_le _, rfl, ⟨0, rfl⟩, fun i _ _ h => by omega⟩
    case round =>
      obtain ⟨k, hk, rfl, ⟨q, rfl⟩, hno⟩ := hrel
      have HNO := hid hno
      clear hno
      by_cases hlt : k < n
      · have hkl : k < l.length := by rw [HN.out]; exact hlt
        have hkl2 : k < l2.length := by rw [HN2.out, ← HL.out]; exact hlt
        obtain ⟨b, off, rfl, hbs, hc⟩ := HH.out k hkl
        obtain ⟨b2, off2, rfl, hbs2, hc2⟩ := HH2.out k hkl2
        have hg : l[k]?.getD 0 = l[k] := by rw [List.getElem?_eq_getElem hkl]; rfl
        have hg2 : l2[k]?.getD 0 = l2[k] := by rw [List.getElem?_eq_getElem hkl2]; rfl
        rw [hg] at hc
        rw [hg2] at hc2
        have hlt2 : k < n2 := by have := HL.out; omega
        have HKL := hid hkl
        have HKL2 := hid hkl2
        clear hg hg2
        by_cases he : l[k] = l2[k]
        · have hb : (l[k] != l2[k]) = false := by simp [he]
          have HE := hid he
          clear he
          go_wp2
          go_quiet (fail)
          go_wp2
          refine ⟨⟨k + 1, by omega, by go_num, ⟨_, rfl⟩, fun j hj hj2 hjk => ?_⟩, by simp [intOf]; omega⟩
          by_cases e : j = k
          · subst e; exact HE.out
          · exact HNO.out j hj hj2 (by omega)
        · have hb : (l[k] != l2[k]) = true := by simp [he]
          have HE := hid he
          clear he
          go_wp2
          go_quiet (fail)
          go_wp2
          go_ret
          refine ⟨ret_bool ?_, q + nq, drewN_add _ _ _⟩
          symm
          rw [decide_eq_false_iff_not]
          rintro rfl
          exact HE.out rfl
      · go_wp2
        go_ret
        refine ⟨ret_bool ?_, _, rfl⟩
        symm
        rw [decide_eq_true_iff]
        have h1 := HN.out
        have h2 := HN2.out
        have h3 := HL.out
        exact List.ext_getElem (by omega) fun i g1 g2 => HNO.out i g1 g2 (by omega)
  · have hd : ((n : Int) != (n2 : Int)) = true := by simp; omega
    have HL := hid hl
    clear hl
    go_enter Tryz.func46, Tryz.ntmps46
    go_wp2
    go_ret
    refine ⟨ret_bool ?_, 0, rfl⟩
    symm
    rw [decide_eq_false_iff_not]
    rintro rfl
    exact HL.out (HN.out.symm.trans HN2.out)
end Go.Proofs.YthaampmdponhbaaGreatDoor

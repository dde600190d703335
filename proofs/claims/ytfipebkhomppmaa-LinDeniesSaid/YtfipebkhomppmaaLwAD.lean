/- Walks: the law's small and long; what the statements about kernels need. -/
import Derived.Test.YtfipebkhomppmaaLwAC
import Derived.Test.YtfipebkhomppmaaLwK
import Derived.Test.YtfipebkhomppmaaLinS
namespace Go.Proofs.Ytfipebkhomppmaa
open Go.RowKit
set_option linter.unusedVariables false

/-- some Boolean, returned -/
def SomeB (e : Ending) : Prop := ∃ b, e = .returned (.bool b)
theorem small_c (w : World) (a : Option Addr) (n cap : Nat) (M : Mask) (hn : M.length = n) (hm : n ≤ maxLen) (H : RowsAt w a M) (a2 : Option Addr) (n2 cap2 : Nat) :
    Calls Try.prog 23 #[.slice a n cap, .slice a2 n2 cap2] w fun e w' => SomeB e ∧ w = w' := by
  have HN := hid hn
  have HH := hid H
  clear hn H
  unfold maxLen at hm
  go_enter Try.func23, Try.ntmps23
  go_wp2
  go_loop [5, 12] (fun s i => ∃ k : Nat, k ≤ n ∧ i = .int .i64 k ∧ ∃ z : Int, s = .int .i64 z) (fun _ i => n - (intOf i).toNat)
  case atStart => exact ⟨0, Nat.zero_le _, rfl, _, rfl⟩
  case round =>
    obtain ⟨k, hk, rfl, z, rfl⟩ := hrel
    by_cases hlt : k < n
    · have hkl : k < M.length := by rw [HN.out]; exact hlt
      obtain ⟨b, off, ra, rn, rc, rfl, hbs, hq0, hrn, hrm, hri⟩ := HH.out k hkl
      clear hrn hri hkl hrm
      go_wp2
      go_round
      case rel => exact ⟨k + 1, by omega, by go_num, _, rfl⟩
      case measure => simp [intOf]; omega
    · go_wp2
      go_ret
      exact ⟨⟨_, rfl⟩, rfl⟩

/-- whether a list of these is longer than a hundred -/
def longB (L : List (List Int)) : Bool := L.any (fun x => decide (100 < x.length))
theorem long_c (w : World) (a : Option Addr) (n cap : Nat) (L : List (List Int)) (hn : L.length = n) (hm : n ≤ maxLen) (H : RowsAt w a L) :
    Calls Try.prog 24 #[.slice a n cap] w fun e w' => e = .returned (.bool (longB L)) ∧ w = w' := by
  have HN := hid hn
  have HH := hid H
  clear hn H
  unfold maxLen at hm
  go_enter Try.func24, Try.ntmps24
  go_wp2
  go_loop [7] (fun i => ∃ k : Nat, k ≤ n ∧ i = .int .i64 k ∧ Hid (∀ j (hj : j < L.length), j < k → ¬ 100 < L[j].length)) (fun i => n - (intOf i).toNat)
  case atStart => exact ⟨0, Nat.zero_le _, rfl, hid (fun j _ h => by omega)⟩
  case round =>
    obtain ⟨k, hk, rfl, HNO⟩ := hrel
    by_cases hlt : k < n
    · have hkl : k < L.length := by rw [HN.out]; exact hlt
      obtain ⟨b, off, ra, rn, rc, rfl, hbs, hq0, hrn, hrm, hri⟩ := HH.out k hkl
      have HST := hid (fun (h : 100 < L[k].length) => show longB L = true from List.any_eq_true.2 ⟨L[k], List.getElem_mem _, by simpa using h⟩)
      have HNX := hid (fun (h : ¬ 100 < L[k].length) => (show ∀ j (hj : j < L.length), j < k + 1 → ¬ 100 < L[j].length from fun j hj hlt => by
        rcases Nat.lt_or_ge j k with h1 | h1
        · exact HNO.out j hj h1
        · have : j = k := by omega
          subst this; exact h))
      rw [hrn] at HST HNX
      clear hrn hri hkl hrm
      by_cases h1 : 100 < rn
      · have HX := hid (HST.out h1)
        have hi : (100 : Int) < (rn : Int) := by omega
        clear HST HNX
        go_wp2
        go_ret
        exact ⟨ret_bool HX.out.symm, rfl⟩
      · have HX := hid (HNX.out h1)
        have hi : ¬ (100 : Int) < (rn : Int) := by omega
        clear HST HNX
        go_wp2
        go_round
        case rel => exact ⟨k + 1, by omega, by go_num, HX⟩
        case measure => simp [intOf]; omega
    · go_wp2
      go_ret
      refine ⟨ret_bool ?_, rfl⟩
      symm
      refine List.any_eq_false.2 fun x hx => ?_
      obtain ⟨i, hi, rfl⟩ := List.mem_iff_getElem.1 hx
      have := HNO.out i hi (by have := HN.out; omega)
      simpa using this
/-- one list of ints, as a slice of one -/
theorem rows_one {W : World} {a2 : Option Addr} {n2 cap2 : Nat} {h : List Int} (hn2 : h.length = n2) (hm2 : n2 ≤ maxLen) (H2 : IntsAt W a2 h) :
    RowsAt (W.alloc (.cells #[.slice a2 n2 cap2] 31)) (some ⟨W.heap.size, 0, none⟩) [h] := by
  have hb : Below W.heap.size W (W.alloc (.cells #[.slice a2 n2 cap2] 31)) := (Below.refl _ _).alloc (Nat.le_refl _) _
  intro j hj
  match j, hj with
  | 0, _ => exact ⟨_, 0, a2, n2, cap2, rfl, by simp, by rw [World.cell?_alloc_at _ _ _ _ rfl]; rfl, hn2, hm2, H2.below hb⟩

theorem ker_isKer {M : Mask} (hok : okM M = true) {v : List Int} (hv : v ∈ kerSP M (allI (colsM M))) : isKerB M v = true ∧ v.length = colsM M := by
  obtain ⟨hM, h1, h6, hc1, hc10⟩ := okM_ok hok
  have hke : kerSP M (allI (colsM M)) = kernP (RP M (colsM M)) (JP M (colsM M)) (colsM M) := by unfold kerSP; rw [cols_all hM.wid, allI_len]
  rw [hke] at hv
  obtain ⟨k1, k2, k3, f, hf, k4⟩ := hM.kern hv
  refine ⟨isKer_yes hok k2 ?_ ?_ fun j hj => ?_, k2⟩
  · refine List.all_eq_true.2 (mem_vec (P := fun x => inB x (-1000000) 1000000 = true) fun c => ?_)
    have := k3 c
    unfold inB
    simp only [Bool.and_eq_true, decide_eq_true_eq]
    omega
  · rw [← Bool.not_eq_true]
    intro h0
    have h2 : ∀ x ∈ v, x = 0 := fun x hx => by simpa using List.all_eq_true.1 h0 x hx
    have h3 := vec_mem (P := fun x => x = 0) rfl h2 f
    omega
  · have := k1 j hj
    unfold dotV
    have hl : M[j].length = colsM M := hM.wid _ (List.getElem_mem hj)
    rw [hl]
    unfold dotS rowv at this
    rw [List.getElem?_eq_getElem hj] at this
    exact this
theorem rank_kers {M : Mask} (hok : okM M = true) : rankF M (colsM M) + (kerSP M (allI (colsM M))).length = colsM M := by
  obtain ⟨hM, h1, h6, hc1, hc10⟩ := okM_ok hok
  have hke : kerSP M (allI (colsM M)) = kernP (RP M (colsM M)) (JP M (colsM M)) (colsM M) := by unfold kerSP; rw [cols_all hM.wid, allI_len]
  rw [hke]
  exact hM.rank_ker
end Go.Proofs.Ytfipebkhomppmaa

/- The law's own functions of layer 9: fit, awake. -/
import Derived.Test.YthaampmdponhbaaGreatDoorFltR
namespace Go.Proofs.YthaampmdponhbaaGreatDoor
open Go.RowKit Go.Maps
set_option linter.unusedVariables false

/-- a new row of ints -/
theorem lit_ints (W : World) (l : List Int) (T : TypeId) : IntsAt (W.alloc (.cells (l.map (Value.int .i64)).toArray T)) (some ⟨W.heap.size, 0, none⟩) l := by
  intro j hj
  refine ⟨W.heap.size, 0, rfl, by simp, ?_⟩
  rw [World.cell?_alloc_at _ _ _ _ rfl]
  simp [List.getElem?_eq_getElem hj]
/-- a new slice of one row -/
theorem lit_rows1 (W : World) (ra : Option Addr) (n cap : Nat) (l : List Int) (hn : l.length = n) (hm : n ≤ maxLen) (h : IntsAt W ra l) (T : TypeId) : RowsAt (W.alloc (.cells #[.slice ra n cap] T)) (some ⟨W.heap.size, 0, none⟩) [l] := by
  have hb : Below W.heap.size W (W.alloc (.cells #[.slice ra n cap] T)) := (Below.refl _ _).alloc (Nat.le_refl _) _
  intro j hj
  obtain rfl : j = 0 := by simp at hj; omega
  refine ⟨W.heap.size, 0, ra, n, cap, rfl, by simp, ?_, hn, hm, h.below hb⟩
  rw [World.cell?_alloc_at _ _ _ _ rfl]; rfl

/-- a mask that is small enough -/
def fitM (M : Mask) : Bool := M.all (fun r => decide (r.length ≤ 20)) && decide (M.length ≤ 8)

theorem fit_c (w : World) (a : Option Addr) (n cap : Nat) (M : Mask) (hn : M.length = n) (hm : n ≤ maxLen) (H : RowsAt w a M) :
    Calls Tryz.prog 6 #[.slice a n cap] w fun e w' => e = .returned (.bool (fitM M)) ∧ w = w' := by
  have HN := hid hn
  have HH := hid H
  clear hn H
  unfold maxLen at hm
  go_enter Tryz.func6, Tryz.ntmps6
  go_wp2
  go_loop [7] (fun i => ∃ k : Nat, k ≤ n ∧ i = .int .i64 k ∧ Hid (∀ j (hj : j < M.length), j < k → M[j].length ≤ 20)) (fun i => n - (intOf i).toNat)
  case atStart => exact ⟨0, Nat.zero_le _, rfl, hid (fun j _ h => by omega)⟩
  case round =>
    obtain ⟨k, hk, rfl, hS⟩ := hrel
    by_cases hlt : k < n
    · have hkM : k < M.length := by rw [HN.out]; exact hlt
      obtain ⟨b, off, ra, rn, rc, rfl, hbs, hc, hrn, hrm, hri⟩ := HH.out k hkM
      have HRN := hid hrn
      unfold maxLen at hrm
      clear hri hrn
      by_cases h20 : rn ≤ 20
      · go_wp2
        go_round
        case rel => exact ⟨k + 1, by omega, by go_num, hid (fun j hj hjk => by
          rcases Nat.lt_or_ge j k with h | h
          · exact hS.out j hj h
          · obtain rfl : j = k := by omega
            rw [HRN.out]; exact h20)⟩
        case measure => simp [intOf]; omega
      · go_wp2
        go_ret
        refine ⟨ret_bool ?_, rfl⟩
        symm
        unfold fitM
        rw [Bool.and_eq_false_iff]
        left
        rw [List.all_eq_false]
        exact ⟨M[k], List.getElem_mem _, by have := HRN.out; simp; omega⟩
    · obtain rfl : k = n := by omega
      go_wp2
      go_ret
      refine ⟨ret_bool ?_, rfl⟩
      unfold fitM
      have h1 : M.all (fun r => decide (r.length ≤ 20)) = true := by
        rw [List.all_eq_true]
        intro r hr
        obtain ⟨j, hj, rfl⟩ := List.mem_iff_getElem.1 hr
        have := hS.out j hj (by have := HN.out; omega)
        simpa using this
      rw [h1, HN.out, Bool.true_and]
      simp; omega

theorem awake_vals : maskE [[1, -1]] = 0 ∧ (allL [[1, -1]]).length = 6 ∧ listedE [[1, -1]] [[1, 2]] = 0 ∧ enoughB [[1, -1]] [[1, 2]] = true := by decide +kernel

theorem awake_enough (W : World) (ht : Tab W) (a : Option Addr) (hR : RowsAt W a [[1, -1]]) :
    Calls Tryz.prog 24 #[.slice a 1 1, .slice (some ⟨W.heap.size + 1, 0, none⟩) 1 1] ((W.alloc (.cells #[.int .i64 1, .int .i64 2] 3)).alloc (.cells #[.slice (some ⟨W.heap.size, 0, none⟩) 2 2] 27))
      fun e w' => e = .returned (.tuple #[.bool true, .int .i64 0]) ∧ Below ((W.alloc (.cells #[.int .i64 1, .int .i64 2] 3)).alloc (.cells #[.slice (some ⟨W.heap.size, 0, none⟩) 2 2] 27)).heap.size ((W.alloc (.cells #[.int .i64 1, .int .i64 2] 3)).alloc (.cells #[.slice (some ⟨W.heap.size, 0, none⟩) 2 2] 27)) w' := by
  obtain ⟨_, _, c3, c4⟩ := awake_vals
  obtain ⟨wa, hwa⟩ : ∃ wa, wa = (W.alloc (.cells #[.int .i64 1, .int .i64 2] 3)).alloc (.cells #[.slice (some ⟨W.heap.size, 0, none⟩) 2 2] 27) := ⟨_, rfl⟩
  have hba : Below W.heap.size W wa := by rw [hwa]; exact ((Below.refl _ _).alloc (Nat.le_refl _) _).alloc (by simp) _
  have hL : RowsAt wa (some ⟨W.heap.size + 1, 0, none⟩) [[1, 2]] := by
    have := lit_rows1 (W.alloc (.cells #[.int .i64 1, .int .i64 2] 3)) (some ⟨W.heap.size, 0, none⟩) 2 2 [1, 2] rfl (by decide) (lit_ints W [1, 2] 3) 27
    rw [World.size_alloc] at this
    rw [hwa]; exact this
  rw [← hwa]
  have h := Enough_c wa (ht.below hba) a 1 1 [[1, -1]] rfl (by decide) (hR.below hba) (some ⟨W.heap.size + 1, 0, none⟩) 1 1 [[1, 2]] rfl (by decide) hL
  rw [c3, c4] at h
  exact h

set_option maxRecDepth 100000 in
theorem awake_c (w : World) (ht : Tab w) : Calls Tryz.prog 8 #[] w fun e w' => e = .returned (.bool true) ∧ Below w.heap.size w w' := by
  obtain ⟨c1, c2, _, _⟩ := awake_vals
  obtain ⟨wa, hwa⟩ : ∃ wa, wa = (w.alloc (.cells #[.int .i64 1, .int .i64 (-1)] 3)).alloc (.cells #[.slice (some ⟨w.heap.size, 0, none⟩) 2 2] 27) := ⟨_, rfl⟩
  have hba : Below w.heap.size w wa := by rw [hwa]; exact ((Below.refl _ _).alloc (Nat.le_refl _) _).alloc (by simp) _
  have hR : RowsAt wa (some ⟨w.heap.size + 1, 0, none⟩) [[1, -1]] := by
    have := lit_rows1 (w.alloc (.cells #[.int .i64 1, .int .i64 (-1)] 3)) (some ⟨w.heap.size, 0, none⟩) 2 2 [1, -1] rfl (by decide) (lit_ints w [1, -1] 3) 27
    rw [World.size_alloc] at this
    rw [hwa]; exact this
  have HA := hid (All_c wa (some ⟨w.heap.size + 1, 0, none⟩) 1 1 [[1, -1]] rfl (by decide) hR)
  have HQ := hid (fun (W : World) (hb : Below wa.heap.size wa W) => awake_enough W (ht.below (chain hba hb)) (some ⟨w.heap.size + 1, 0, none⟩) (hR.below hb))
  rw [c1] at HA
  have C2 := hid c2
  clear c1 c2 hR
  go_enter Tryz.func8, Tryz.ntmps8
  go_wp2_with fail
  rw [← hwa]
  clear hwa
  go_wp2_with (go_at_call 30; refine HA.out.mono ?_; rintro e w1 ⟨v, base, rfl, hbase, hF, hb1⟩; refine Stop.of ?_)
  refine Stop.go ?_
  obtain ⟨va, vc, rfl, _, _⟩ := hF.reads
  rw [C2.out]
  have HB := hid (chain hba hb1)
  have HQ1 := hid (HQ.out w1 hb1)
  clear hF hbase hb1 HQ
  go_wp2_with (go_at_call 24; refine HQ1.out.mono ?_; rintro e w2 ⟨rfl, hb2⟩)
  go_ret
  refine ⟨rfl, ?_⟩
  exact chain (((HB.out.alloc HB.out.size _).alloc (by have := HB.out.size; simp; omega) _)) hb2
end Go.Proofs.YthaampmdponhbaaGreatDoor

/- Walks of the reference's faults: Valid, faulty, SameMask. -/
import Derived.Test.YthaampmdponhbaaGreatDoorFltS
import Derived.BigRegion
namespace Go.Proofs.YthaampmdponhbaaGreatDoor
open Go.RowKit
set_option linter.unusedVariables false

theorem refOkF_c (w : World) (a : Option Addr) (n cap : Nat) (M : Mask) (hn : M.length = n) (hm : n ≤ maxLen) (H : RowsAt w a M) (hM : okM M = true) (f : Flt) :
    Calls Tryz.prog 34 #[.slice a n cap, f.val] w fun e w' => e = .returned (.bool (okF M f)) ∧ Below w.heap.size w w' := by
  obtain ⟨m1, m6, c1, c10, hrows⟩ := okM_len hM
  obtain ⟨kind, row, pixel⟩ := f
  unfold Flt.val
  simp only []
  have hb0 : Below w.heap.size w (w.alloc (.cells #[.int .i64 kind, .int .i64 row, .int .i64 pixel] 25)) := (Below.refl _ _).alloc (Nat.le_refl _) _
  obtain ⟨wf, hwf⟩ : ∃ wf, wf = w.alloc (.cells #[.int .i64 kind, .int .i64 row, .int .i64 pixel] 25) := ⟨_, rfl⟩
  have hf0 : wf.cell? ⟨w.heap.size, 0, none⟩ = some (.int .i64 kind) := by rw [hwf, World.cell?_alloc_at _ _ _ _ rfl]; rfl
  have hf1 : wf.cell? ⟨w.heap.size, 1, none⟩ = some (.int .i64 row) := by rw [hwf, World.cell?_alloc_at _ _ _ _ rfl]; rfl
  have hf2 : wf.cell? ⟨w.heap.size, 2, none⟩ = some (.int .i64 pixel) := by rw [hwf, World.cell?_alloc_at _ _ _ _ rfl]; rfl
  rw [← hwf] at hb0
  obtain ⟨b, off, qa, qn, qc, rfl, hbs, hq0, hqn, hqm, hqi⟩ := (H.below hb0) 0 (by omega)
  simp only [Nat.add_zero] at hq0
  have HCols : colsM M = qn := by unfold colsM; rw [List.getElem?_eq_getElem (by omega), ← hqn]; rfl
  rw [HCols] at c1 c10
  have HH := hid (H.below hb0)
  have HN := hid hn
  have HR := hid hrows
  have HB := hid hb0
  have HV := hid (r2Valid_c wf (some ⟨b, off, none⟩) n cap M hn hm (H.below hb0))
  rw [hM] at HV
  have hn6 : n ≤ 6 := by omega
  have hn1 : 1 ≤ n := by omega
  obtain ⟨br, hbr⟩ : ∃ br, br = inB row 0 ((n : Int) - 1) := ⟨_, rfl⟩
  obtain ⟨bp, hbp⟩ : ∃ bp, bp = inB pixel 0 ((qn : Int) - 1) := ⟨_, rfl⟩
  have hokF : okF M ⟨kind, row, pixel⟩ = (if kind = 0 then decide (row = 0) && decide (pixel = 0) else if kind = 1 then br && decide (pixel = 0) else if kind = 2 then bp && decide (row = 0) else if kind = 3 then br && bp && !decide (atM M row pixel = 0) else false) := by
    unfold okF; rw [HCols, hn, hbr, hbp]
  rw [hokF]
  have HCO := hid HCols
  have HBR := hid hbr
  have HBP := hid hbp
  clear hokF HCols hn H hrows hqn hqi hb0 hM m1 m6 hbr hbp
  have hn' : (1:Int) ≤ n := by omega
  have HW := hid (fun nq => show Below w.heap.size w (wf.drewN nq) from below_drewN HB.out nq)
  by_cases k0 : kind = 0
  · subst k0
    go_enter Tryz.func34, Tryz.ntmps34
    go_wp2_with fail
    rw [← hwf]
    clear hwf
    go_wp2_with (go_at_call 69; refine HV.out.mono ?_; rintro e w1 ⟨rfl, rfl⟩)
    go_quiet (first | (go_at_call 70; exact Calls.quiet_of_same ((r9in_c _ _ _ _).mono fun _ _ h => ⟨h.1, h.2.symm⟩)))
    rw [← HBR.out, ← HBP.out]
    go_wp2
    all_goals
      go_ret
      exact ⟨ret_bool (by first | rfl | simp [*] | simp_all), HW.out _⟩
  · by_cases k1 : kind = 1
    · subst k1
      rw [if_neg (by decide), if_pos rfl]
      cases br
      · go_enter Tryz.func34, Tryz.ntmps34
        go_wp2_with fail
        rw [← hwf]
        clear hwf
        go_wp2_with (go_at_call 69; refine HV.out.mono ?_; rintro e w1 ⟨rfl, rfl⟩)
        go_quiet (first | (go_at_call 70; exact Calls.quiet_of_same ((r9in_c _ _ _ _).mono fun _ _ h => ⟨h.1, h.2.symm⟩)))
        rw [← HBR.out, ← HBP.out]
        go_wp2
        go_ret
        exact ⟨rfl, HW.out _⟩
      · go_enter Tryz.func34, Tryz.ntmps34
        go_wp2_with fail
        rw [← hwf]
        clear hwf
        go_wp2_with (go_at_call 69; refine HV.out.mono ?_; rintro e w1 ⟨rfl, rfl⟩)
        go_quiet (first | (go_at_call 70; exact Calls.quiet_of_same ((r9in_c _ _ _ _).mono fun _ _ h => ⟨h.1, h.2.symm⟩)))
        rw [← HBR.out, ← HBP.out]
        go_wp2
        go_ret
        exact ⟨ret_bool (by rw [Bool.eq_iff_iff]; simp), HW.out _⟩
    · by_cases k2 : kind = 2
      · subst k2
        rw [if_neg (by decide), if_neg (by decide), if_pos rfl]
        cases bp
        · go_enter Tryz.func34, Tryz.ntmps34
          go_wp2_with fail
          rw [← hwf]
          clear hwf
          go_wp2_with (go_at_call 69; refine HV.out.mono ?_; rintro e w1 ⟨rfl, rfl⟩)
          go_quiet (first | (go_at_call 70; exact Calls.quiet_of_same ((r9in_c _ _ _ _).mono fun _ _ h => ⟨h.1, h.2.symm⟩)))
          rw [← HBR.out, ← HBP.out]
          go_wp2
          go_ret
          exact ⟨rfl, HW.out _⟩
        · go_enter Tryz.func34, Tryz.ntmps34
          go_wp2_with fail
          rw [← hwf]
          clear hwf
          go_wp2_with (go_at_call 69; refine HV.out.mono ?_; rintro e w1 ⟨rfl, rfl⟩)
          go_quiet (first | (go_at_call 70; exact Calls.quiet_of_same ((r9in_c _ _ _ _).mono fun _ _ h => ⟨h.1, h.2.symm⟩)))
          rw [← HBR.out, ← HBP.out]
          go_wp2
          go_ret
          exact ⟨ret_bool (by rw [Bool.eq_iff_iff]; simp), HW.out _⟩
      · by_cases k3 : kind = 3
        · subst k3
          rw [if_neg (by decide), if_neg (by decide), if_neg (by decide), if_pos rfl]
          cases br
          · go_enter Tryz.func34, Tryz.ntmps34
            go_wp2_with fail
            rw [← hwf]
            clear hwf
            go_wp2_with (go_at_call 69; refine HV.out.mono ?_; rintro e w1 ⟨rfl, rfl⟩)
            go_quiet (first | (go_at_call 70; exact Calls.quiet_of_same ((r9in_c _ _ _ _).mono fun _ _ h => ⟨h.1, h.2.symm⟩)))
            rw [← HBR.out, ← HBP.out]
            go_wp2
            go_quiet (fail)
            go_wp2
            go_ret
            exact ⟨rfl, below_drewN (HW.out _) _⟩
          · cases bp
            · go_enter Tryz.func34, Tryz.ntmps34
              go_wp2_with fail
              rw [← hwf]
              clear hwf
              go_wp2_with (go_at_call 69; refine HV.out.mono ?_; rintro e w1 ⟨rfl, rfl⟩)
              go_quiet (first | (go_at_call 70; exact Calls.quiet_of_same ((r9in_c _ _ _ _).mono fun _ _ h => ⟨h.1, h.2.symm⟩)))
              rw [← HBR.out, ← HBP.out]
              go_wp2
              go_quiet (fail)
              go_wp2
              go_ret
              exact ⟨rfl, below_drewN (HW.out _) _⟩
            · obtain ⟨i, rfl⟩ : ∃ i : Nat, row = i := ⟨row.toNat, by have := HBR.out.symm; unfold inB at this; simp at this; omega⟩
              obtain ⟨j, rfl⟩ : ∃ j : Nat, pixel = j := ⟨pixel.toNat, by have := HBP.out.symm; unfold inB at this; simp at this; omega⟩
              have hi : i < n := by have := HBR.out.symm; unfold inB at this; simp at this; omega
              have hj : j < qn := by have := HBP.out.symm; unfold inB at this; simp at this; omega
              have hiM : i < M.length := by rw [HN.out]; exact hi
              obtain ⟨b1, off1, ra, rn, rc, e1, hbs1, hri0, hrn, hrm, hrI⟩ := HH.out i hiM
              cases e1
              have hrl := (HR.out M[i] (List.getElem_mem hiM)).1
              have hjr : j < M[i].length := by rw [hrl, HCO.out]; exact hj
              obtain ⟨b2, off2, rfl, hbs2, hc2⟩ := hrI j hjr
              have hat : atM M i j = M[i][j]?.getD 0 := by unfold atM; simp [List.getElem?_eq_getElem hiM]
              have hjn : j < rn := by omega
              obtain ⟨V, hV⟩ : ∃ V, V = M[i][j]?.getD 0 := ⟨_, rfl⟩
              rw [← hV] at hat hc2
              rw [hat]
              have HCQ := hid hc2
              have hj2 : (j : Int) < qn := by omega
              clear hat hV hjr hrl hrI hrn hiM
              go_enter Tryz.func34, Tryz.ntmps34
              go_wp2_with fail
              rw [← hwf]
              clear hwf
              go_wp2_with (go_at_call 69; refine HV.out.mono ?_; rintro e w1 ⟨rfl, rfl⟩)
              go_quiet (first | (go_at_call 70; exact Calls.quiet_of_same ((r9in_c _ _ _ _).mono fun _ _ h => ⟨h.1, h.2.symm⟩)))
              rw [← HBR.out, ← HBP.out]
              go_wp2
              go_quiet (fail)
              go_wp2
              go_ret
              exact ⟨ret_bool (by rw [Bool.eq_iff_iff]; simp), below_drewN (HW.out _) _⟩
        · rw [if_neg k0, if_neg k1, if_neg k2, if_neg k3]
          have e0 : (kind == 0) = false := by simpa using k0
          have e1 : (kind == 1) = false := by simpa using k1
          have e2 : (kind == 2) = false := by simpa using k2
          have e3 : (kind == 3) = false := by simpa using k3
          clear k0 k1 k2 k3
          go_enter Tryz.func34, Tryz.ntmps34
          go_wp2_with fail
          rw [← hwf]
          clear hwf
          go_wp2_with (go_at_call 69; refine HV.out.mono ?_; rintro e w1 ⟨rfl, rfl⟩)
          go_quiet (first | (go_at_call 70; exact Calls.quiet_of_same ((r9in_c _ _ _ _).mono fun _ _ h => ⟨h.1, h.2.symm⟩)))
          rw [← HBR.out, ← HBP.out]
          go_wp2
          go_ret
          exact ⟨rfl, HW.out _⟩

theorem refFValid_c (w : World) (a : Option Addr) (n cap : Nat) (M : Mask) (hn : M.length = n) (hm : n ≤ maxLen) (H : RowsAt w a M) (f : Flt) :
    Calls Tryz.prog 34 #[.slice a n cap, f.val] w fun e w' => e = .returned (.bool (validF M f)) ∧ Below w.heap.size w w' := by
  cases hv : okM M
  · obtain ⟨wf, hwf, hb0, hcells⟩ := fltBox w f
    have HV := hid (r2Valid_c wf a n cap M hn hm (H.below hb0))
    rw [hv] at HV
    have HE := hid hv
    clear hn H hcells hv
    obtain ⟨kind, row, pixel⟩ := f
    unfold Flt.val
    simp only [] at hwf ⊢
    go_enter Tryz.func34, Tryz.ntmps34
    go_wp2_with fail
    rw [← hwf]
    clear hwf
    go_wp2_with (go_at_call 69; refine HV.out.mono ?_; rintro e w1 ⟨rfl, rfl⟩)
    go_ret
    exact ⟨ret_bool (by unfold validF; rw [HE.out]; rfl), hb0⟩
  · refine (refOkF_c w a n cap M hn hm H hv f).mono fun e w' ⟨h1, h2⟩ => ⟨?_, h2⟩
    unfold validF; rw [hv]; exact h1

/-- a number of a mask behind a fault, as the reference makes it -/
def fEl (f : Flt) (i j : Nat) (n : Int) : Int :=
  bif ((f.kind == 1) && ((i : Int) == f.row)) || ((f.kind == 2) && ((j : Int) == f.pixel)) then 0 else bif (f.kind == 3) && ((i : Int) == f.row) && ((j : Int) == f.pixel) then -n else n
def fRow (f : Flt) (i : Nat) (r : List Int) : List Int := r.mapIdx (fEl f i)
def refFl (M : Mask) (f : Flt) : Mask := M.mapIdx (fRow f)

theorem fEl_cases (f : Flt) (i j : Nat) (n : Int) :
    ((f.kind == 1) = true ∧ True ∧ True ∧ ((i : Int) == f.row) = true ∧ True ∧ fEl f i j n = 0) ∨
    ((f.kind == 1) = true ∧ (f.kind == 2) = false ∧ (f.kind == 3) = false ∧ ((i : Int) == f.row) = false ∧ True ∧ fEl f i j n = n) ∨
    ((f.kind == 1) = false ∧ (f.kind == 2) = true ∧ True ∧ True ∧ ((j : Int) == f.pixel) = true ∧ fEl f i j n = 0) ∨
    ((f.kind == 1) = false ∧ (f.kind == 2) = true ∧ (f.kind == 3) = false ∧ True ∧ ((j : Int) == f.pixel) = false ∧ fEl f i j n = n) ∨
    ((f.kind == 1) = false ∧ (f.kind == 2) = false ∧ (f.kind == 3) = true ∧ ((i : Int) == f.row) = true ∧ ((j : Int) == f.pixel) = true ∧ fEl f i j n = -n) ∨
    ((f.kind == 1) = false ∧ (f.kind == 2) = false ∧ (f.kind == 3) = true ∧ ((i : Int) == f.row) = true ∧ ((j : Int) == f.pixel) = false ∧ fEl f i j n = n) ∨
    ((f.kind == 1) = false ∧ (f.kind == 2) = false ∧ (f.kind == 3) = true ∧ ((i : Int) == f.row) = false ∧ True ∧ fEl f i j n = n) ∨
    ((f.kind == 1) = false ∧ (f.kind == 2) = false ∧ (f.kind == 3) = false ∧ True ∧ True ∧ fEl f i j n = n) := by
  unfold fEl
  have h12 : (f.kind == 1) = true → (f.kind == 2) = false ∧ (f.kind == 3) = false := by intro h; simp at h; simp [h]
  have h23 : (f.kind == 2) = true → (f.kind == 3) = false := by intro h; simp at h; simp [h]
  revert h12 h23
  cases (f.kind == 1) <;> cases (f.kind == 2) <;> cases (f.kind == 3) <;> cases ((i : Int) == f.row) <;> cases ((j : Int) == f.pixel) <;> simp

theorem refFl_eq {M : Mask} {f : Flt} (hM : okM M = true) (hf : okF M f = true) : refFl M f = faultyM M f := by
  obtain ⟨m1, m6, c1, c10, hrows⟩ := okM_len hM
  obtain ⟨kind, row, pixel⟩ := f
  rcases okF_cases hf hM with ⟨rfl, rfl, rfl⟩ | ⟨rfl, i0, rfl, hi0, rfl⟩ | ⟨rfl, j0, rfl, hj0, rfl⟩ | ⟨rfl, i0, j0, rfl, rfl, hi0, hj0, _⟩
  · have e : faultyM M ⟨0, 0, 0⟩ = M := by simp [faultyM]
    rw [e]
    apply List.ext_getElem (by simp [refFl])
    intro i h1 h2
    simp only [refFl, List.getElem_mapIdx]
    apply List.ext_getElem (by simp [fRow])
    intro j h3 h4
    simp [fRow, fEl]
  · have e : faultyM M ⟨1, (i0 : Int), 0⟩ = M.set i0 (List.replicate (M[i0]?.getD []).length 0) := by simp [faultyM, deadM]
    rw [e]
    apply List.ext_getElem (by simp [refFl])
    intro i h1 h2
    simp only [refFl, List.getElem_mapIdx]
    rw [List.getElem_set]
    by_cases e : i0 = i
    · subst e
      rw [if_pos rfl]
      apply List.ext_getElem (by simp [fRow, List.getElem?_eq_getElem hi0])
      intro j h3 h4
      simp [fRow, fEl]
    · rw [if_neg e]
      apply List.ext_getElem (by simp [fRow])
      intro j h3 h4
      have : ((i : Int) == (i0 : Int)) = false := by simp; omega
      simp [fRow, fEl, this]
  · have e : faultyM M ⟨2, 0, (j0 : Int)⟩ = M.map (fun r => r.set j0 0) := by simp [faultyM, darkM]
    rw [e]
    apply List.ext_getElem (by simp [refFl])
    intro i h1 h2
    simp only [refFl, List.getElem_mapIdx, List.getElem_map]
    apply List.ext_getElem (by simp [fRow])
    intro j h3 h4
    rw [List.getElem_set]
    by_cases e : j0 = j
    · subst e; simp [fRow, fEl]
    · have : ((j : Int) == (j0 : Int)) = false := by simp; omega
      simp [fRow, fEl, this, e]
  · have e : faultyM M ⟨3, (i0 : Int), (j0 : Int)⟩ = M.set i0 ((M[i0]?.getD []).set j0 (-((M[i0]?.getD [])[j0]?.getD 0))) := by simp [faultyM, turnM]
    rw [e]
    apply List.ext_getElem (by simp [refFl])
    intro i h1 h2
    have hi : i < M.length := by simpa [refFl] using h1
    have hl := (hrows M[i] (List.getElem_mem hi)).1
    simp only [refFl, List.getElem_mapIdx]
    rw [List.getElem_set]
    by_cases e : i0 = i
    · subst e
      rw [if_pos rfl]
      apply List.ext_getElem (by simp [fRow, List.getElem?_eq_getElem hi])
      intro j h3 h4
      simp only [List.getElem?_eq_getElem hi, Option.getD_some, List.getElem_set]
      by_cases e2 : j0 = j
      · subst e2
        have : j0 < M[i0].length := by omega
        simp [fRow, fEl, this]
      · have : ((j : Int) == (j0 : Int)) = false := by simp; omega
        simp [fRow, fEl, this, e2]
    · rw [if_neg e]
      apply List.ext_getElem (by simp [fRow])
      intro j h3 h4
      have : ((i : Int) == (i0 : Int)) = false := by simp; omega
      simp [fRow, fEl, this]

theorem fRow_take (f : Flt) (i k : Nat) (r : List Int) (hk : k < r.length) : (fRow f i r).take (k + 1) = (fRow f i r).take k ++ [fEl f i k r[k]] := by
  rw [List.take_succ_eq_append_getElem (by simpa [fRow] using hk)]
  simp [fRow]
theorem refFl_take (f : Flt) (M : Mask) (k : Nat) (hk : k < M.length) : (refFl M f).take (k + 1) = (refFl M f).take k ++ [fRow f k M[k]] := by
  rw [List.take_succ_eq_append_getElem (by simpa [refFl] using hk)]
  simp [refFl]
end Go.Proofs.YthaampmdponhbaaGreatDoor

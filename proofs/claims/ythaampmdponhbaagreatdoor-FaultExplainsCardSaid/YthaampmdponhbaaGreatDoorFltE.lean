/- Walks of package fault: within, valid, Valid. -/
import Derived.Test.YthaampmdponhbaaGreatDoorFltD
import Derived.BigRegion
namespace Go.Proofs.YthaampmdponhbaaGreatDoor
open Go.RowKit
set_option linter.unusedVariables false

/-- a fault of the document -/
structure Flt where
  kind : Int
  row : Int
  pixel : Int
deriving DecidableEq

def Flt.val (f : Flt) : Value := .agg #[.int .i64 f.kind, .int .i64 f.row, .int .i64 f.pixel]

/-- the number of a mask at a row and a pixel -/
def atM (M : Mask) (i j : Int) : Int := (M[i.toNat]?.getD [])[j.toNat]?.getD 0
/-- a fault that is one of a valid mask -/
def okF (M : Mask) (f : Flt) : Bool :=
  if f.kind = 0 then decide (f.row = 0) && decide (f.pixel = 0)
  else if f.kind = 1 then inB f.row 0 (M.length - 1) && decide (f.pixel = 0)
  else if f.kind = 2 then inB f.pixel 0 (colsM M - 1) && decide (f.row = 0)
  else if f.kind = 3 then inB f.row 0 (M.length - 1) && inB f.pixel 0 (colsM M - 1) && !decide (atM M f.row f.pixel = 0)
  else false

theorem fwithin_c (n lo hi : Int) (w : World) : Calls Tryz.prog 53 #[.int .i64 n, .int .i64 lo, .int .i64 hi] w fun e w' => e = .returned (.bool (inB n lo hi)) ∧ w = w' := by
  by_cases h1 : lo ≤ n <;> by_cases h2 : n ≤ hi
  all_goals
    go_enter Tryz.func53, Tryz.ntmps53
    go_wp2
    go_ret
    exact ⟨ret_bool (by simp [inB, h1, h2]), rfl⟩

theorem fvalid_c (w : World) (a : Option Addr) (n cap : Nat) (M : Mask) (hn : M.length = n) (H : RowsAt w a M) (hM : okM M = true) (f : Flt) :
    Calls Tryz.prog 64 #[.slice a n cap, f.val] w fun e w' => e = .returned (.bool (okF M f)) ∧ Below w.heap.size w w' := by
  obtain ⟨m1, m6, c1, c10, hrows⟩ := okM_len hM
  obtain ⟨kind, row, pixel⟩ := f
  unfold Flt.val
  simp only []
  have hb0 : Below w.heap.size w (w.alloc (.cells #[.int .i64 kind, .int .i64 row, .int .i64 pixel] 25)) := (Below.refl _ _).alloc (Nat.le_refl _) _
  obtain ⟨wf, hwf⟩ : ∃ wf, wf = w.alloc (.cells #[.int .i64 kind, .int .i64 row, .int .i64 pixel] 25) := ⟨_, rfl⟩
  have hf0 : wf.cell? ⟨w.heap.size, 0, none⟩ = some (.int .i64 kind) := by rw [hwf, World.cell?_alloc_at _ _ _ _ rfl]; rfl
  have hf1 : wf.cell? ⟨w.heap.size, 1, none⟩ = some (.int .i64 row) := by rw [hwf, World.cell?_alloc_at _ _ _ _ rfl]; rfl
  have hf2 : wf.cell? ⟨w.heap.size, 2, none⟩ = some (.int .i64 pixel) := by rw [hwf, World.cell?_alloc_at _ _ _ _ rfl]; rfl
  rw [← hwf] at hb0
  obtain ⟨b, off, qa, qn, qc, rfl, hbs, hq0, hqn, hqm, hqi⟩ := (H.below hb0) 0 (by omega)
  simp only [Nat.add_zero] at hq0
  have HCols : colsM M = qn := by unfold colsM; rw [List.getElem?_eq_getElem (by omega), ← hqn]; rfl
  rw [HCols] at c1 c10
  have HH := hid (H.below hb0)
  have HN := hid hn
  have HR := hid hrows
  have HB := hid hb0
  have hn6 : n ≤ 6 := by omega
  have hn1 : 1 ≤ n := by omega
  obtain ⟨br, hbr⟩ : ∃ br, br = inB row 0 ((n : Int) - 1) := ⟨_, rfl⟩
  obtain ⟨bp, hbp⟩ : ∃ bp, bp = inB pixel 0 ((qn : Int) - 1) := ⟨_, rfl⟩
  have hokF : okF M ⟨kind, row, pixel⟩ = (if kind = 0 then decide (row = 0) && decide (pixel = 0) else if kind = 1 then br && decide (pixel = 0) else if kind = 2 then bp && decide (row = 0) else if kind = 3 then br && bp && !decide (atM M row pixel = 0) else false) := by
    unfold okF; rw [HCols, hn, hbr, hbp]
  rw [hokF]
  have HCO := hid HCols
  have HBR := hid hbr
  have HBP := hid hbp
  clear hokF HCols hn H hrows hqn hqi hb0 hM m1 m6 hbr hbp
  have hn' : (1:Int) ≤ n := by omega
  have HW := hid (fun nq => show Below w.heap.size w (wf.drewN nq) from below_drewN HB.out nq)
  by_cases k0 : kind = 0
  · subst k0
    go_enter Tryz.func64, Tryz.ntmps64
    go_wp2
    rw [← hwf]
    clear hwf
    go_quiet (first | (go_at_call 53; exact Calls.quiet_of_same ((fwithin_c _ _ _ _).mono fun _ _ h => ⟨h.1, h.2.symm⟩)))
    rw [← HBR.out, ← HBP.out]
    go_wp2
    all_goals
      go_ret
      exact ⟨ret_bool (by simp [*]), HW.out _⟩
  · by_cases k1 : kind = 1
    · subst k1
      rw [if_neg (by decide), if_pos rfl]
      cases br
      · go_enter Tryz.func64, Tryz.ntmps64
        go_wp2
        rw [← hwf]
        clear hwf
        go_quiet (first | (go_at_call 53; exact Calls.quiet_of_same ((fwithin_c _ _ _ _).mono fun _ _ h => ⟨h.1, h.2.symm⟩)))
        rw [← HBR.out, ← HBP.out]
        go_wp2
        go_ret
        exact ⟨rfl, HW.out _⟩
      · go_enter Tryz.func64, Tryz.ntmps64
        go_wp2
        rw [← hwf]
        clear hwf
        go_quiet (first | (go_at_call 53; exact Calls.quiet_of_same ((fwithin_c _ _ _ _).mono fun _ _ h => ⟨h.1, h.2.symm⟩)))
        rw [← HBR.out, ← HBP.out]
        go_wp2
        go_ret
        exact ⟨ret_bool (by rw [Bool.eq_iff_iff]; simp), HW.out _⟩
    · by_cases k2 : kind = 2
      · subst k2
        rw [if_neg (by decide), if_neg (by decide), if_pos rfl]
        cases bp
        · go_enter Tryz.func64, Tryz.ntmps64
          go_wp2
          rw [← hwf]
          clear hwf
          go_quiet (first | (go_at_call 53; exact Calls.quiet_of_same ((fwithin_c _ _ _ _).mono fun _ _ h => ⟨h.1, h.2.symm⟩)))
          rw [← HBR.out, ← HBP.out]
          go_wp2
          go_ret
          exact ⟨rfl, HW.out _⟩
        · go_enter Tryz.func64, Tryz.ntmps64
          go_wp2
          rw [← hwf]
          clear hwf
          go_quiet (first | (go_at_call 53; exact Calls.quiet_of_same ((fwithin_c _ _ _ _).mono fun _ _ h => ⟨h.1, h.2.symm⟩)))
          rw [← HBR.out, ← HBP.out]
          go_wp2
          go_ret
          exact ⟨ret_bool (by rw [Bool.eq_iff_iff]; simp), HW.out _⟩
      · by_cases k3 : kind = 3
        · subst k3
          rw [if_neg (by decide), if_neg (by decide), if_neg (by decide), if_pos rfl]
          cases br
          · go_enter Tryz.func64, Tryz.ntmps64
            go_wp2
            rw [← hwf]
            clear hwf
            go_quiet (first | (go_at_call 53; exact Calls.quiet_of_same ((fwithin_c _ _ _ _).mono fun _ _ h => ⟨h.1, h.2.symm⟩)))
            rw [← HBR.out, ← HBP.out]
            go_wp2
            go_quiet (fail)
            go_wp2
            go_ret
            exact ⟨rfl, below_drewN (HW.out _) _⟩
          · cases bp
            · go_enter Tryz.func64, Tryz.ntmps64
              go_wp2
              rw [← hwf]
              clear hwf
              go_quiet (first | (go_at_call 53; exact Calls.quiet_of_same ((fwithin_c _ _ _ _).mono fun _ _ h => ⟨h.1, h.2.symm⟩)))
              rw [← HBR.out, ← HBP.out]
              go_wp2
              go_quiet (fail)
              go_wp2
              go_ret
              exact ⟨rfl, below_drewN (HW.out _) _⟩
            · obtain ⟨i, rfl⟩ : ∃ i : Nat, row = i := ⟨row.toNat, by have := HBR.out.symm; unfold inB at this; simp at this; omega⟩
              obtain ⟨j, rfl⟩ : ∃ j : Nat, pixel = j := ⟨pixel.toNat, by have := HBP.out.symm; unfold inB at this; simp at this; omega⟩
              have hi : i < n := by have := HBR.out.symm; unfold inB at this; simp at this; omega
              have hj : j < qn := by have := HBP.out.symm; unfold inB at this; simp at this; omega
              have hiM : i < M.length := by rw [HN.out]; exact hi
              obtain ⟨b1, off1, ra, rn, rc, e1, hbs1, hri0, hrn, hrm, hrI⟩ := HH.out i hiM
              cases e1
              have hrl := (HR.out M[i] (List.getElem_mem hiM)).1
              have hjr : j < M[i].length := by rw [hrl, HCO.out]; exact hj
              obtain ⟨b2, off2, rfl, hbs2, hc2⟩ := hrI j hjr
              have hat : atM M i j = M[i][j]?.getD 0 := by unfold atM; simp [List.getElem?_eq_getElem hiM]
              have hjn : j < rn := by omega
              obtain ⟨V, hV⟩ : ∃ V, V = M[i][j]?.getD 0 := ⟨_, rfl⟩
              rw [← hV] at hat hc2
              rw [hat]
              have HCQ := hid hc2
              have hj2 : (j : Int) < qn := by omega
              clear hat hV hjr hrl hrI hrn hiM
              go_enter Tryz.func64, Tryz.ntmps64
              go_wp2
              rw [← hwf]
              clear hwf
              go_quiet (first | (go_at_call 53; exact Calls.quiet_of_same ((fwithin_c _ _ _ _).mono fun _ _ h => ⟨h.1, h.2.symm⟩)))
              rw [← HBR.out, ← HBP.out]
              go_wp2
              go_quiet (fail)
              go_wp2
              go_ret
              exact ⟨ret_bool (by rw [Bool.eq_iff_iff]; simp), below_drewN (HW.out _) _⟩
        · rw [if_neg k0, if_neg k1, if_neg k2, if_neg k3]
          have e0 : (kind == 0) = false := by simpa using k0
          have e1 : (kind == 1) = false := by simpa using k1
          have e2 : (kind == 2) = false := by simpa using k2
          have e3 : (kind == 3) = false := by simpa using k3
          clear k0 k1 k2 k3
          go_enter Tryz.func64, Tryz.ntmps64
          go_wp2
          rw [← hwf]
          clear hwf
          go_quiet (first | (go_at_call 53; exact Calls.quiet_of_same ((fwithin_c _ _ _ _).mono fun _ _ h => ⟨h.1, h.2.symm⟩)))
          rw [← HBR.out, ← HBP.out]
          go_wp2
          go_ret
          exact ⟨rfl, HW.out _⟩
end Go.Proofs.YthaampmdponhbaaGreatDoor

/- Walks: the errors of pictures and rows, sums, sights. -/
import Derived.Test.YtdcflpfaaeijoaaBitF
import Derived.Test.YtdcflpfaaeijoaaApp
import Derived.BigRegion
namespace Go.Proofs.Ytdcflpfaaeijoaa
open Go.RowKit
set_option linter.unusedVariables false

theorem pictured1 (w : World) (t : Int) (b : Nat) (hb : b < w.heap.size) (hc : w.cell? ⟨b, 1, none⟩ = some (.int .i64 t)) : PredI Try.prog 97 #[.pointer (some ⟨b, 0, none⟩)] w (fun n => !inB n 0 t) := by
  intro x W hbw
  have hc' : W.cell? ⟨b, 1, none⟩ = some (.int .i64 t) := (hbw.cell (p := ⟨b, 1, none⟩) hb).trans hc
  go_enter Try.func97, Try.ntmps97
  go_wp2_with (go_at_call 59; refine (within_c _ _ _ _).mono ?_; rintro e w1 ⟨rfl, rfl⟩)
  go_ret
  exact ⟨rfl, Below.refl _ _⟩

/-- the error of a picture -/
def picE (p t : Int) (x : List Int) : Int := if (x.length : Int) ≠ p then 9 else if x.all (fun n => inB n 0 t) then 0 else 7

theorem pictured_c (w : World) (p t : Int) (a : Option Addr) (n cap : Nat) (x : List Int) (hn : x.length = n) (hm : n ≤ maxLen) (H : IntsAt w a x) :
    Calls Try.prog 76 #[.agg #[.int .i64 p, .int .i64 t], .slice a n cap] w fun e w' => e = .returned (.int .i64 (picE p t x)) ∧ Below w.heap.size w w' := by
  have hb0 : Below w.heap.size w (w.alloc (.cells #[.int .i64 p, .int .i64 t] 23)) := (Below.refl _ _).alloc (Nat.le_refl _) _
  have HC := hid (containsI (w.alloc (.cells #[.int .i64 p, .int .i64 t] 23)) a n cap x hn hm (H.below hb0) 97 #[.pointer (some ⟨w.heap.size, 0, none⟩)] _ (enters_of Try.func97 (by kernel_rfl) rfl)
    (pictured1 _ t w.heap.size (by simp) (by rw [World.cell?_alloc_at _ _ _ _ rfl]; rfl)))
  have HN := hid hn
  clear hn H
  unfold maxLen at hm
  have hmf : ∀ (fn : Fn) (first cap : Array Value) (w : World), (Instr.makeFunc fn first cap).run Try.prog w = .ok (.func fn first cap) w := fun _ _ _ _ => rfl
  by_cases h : (n : Int) = p
  · have h1 : ((n : Int) != p) = false := by simp [h]
    have HQ := hid h
    clear h
    cases hx : x.any (fun n => !inB n 0 t)
    all_goals
      have hx' : picE p t x = bif x.any (fun n => !inB n 0 t) then 7 else 0 := by
        unfold picE; rw [HN.out, if_neg (by simp [HQ.out]), List.all_eq_not_any_not]
        cases x.any (fun n => !inB n 0 t) <;> rfl
      rw [hx] at hx'
      have HX := hid hx'
      clear hx'
      go_enter Try.func76, Try.ntmps76
      go_wp2_with (refine HC.out.mono ?_; rintro e w1 ⟨rfl, hb1⟩)
      go_ret
      exact ⟨ret_int (by rw [HX.out]; simp), chain hb0 hb1⟩
  · have h1 : ((n : Int) != p) = true := by simp [h]
    go_enter Try.func76, Try.ntmps76
    go_wp2
    go_ret
    exact ⟨ret_int (by unfold picE; rw [HN.out, if_pos h]), hb0⟩

theorem refPicture_c (w : World) (p t : Int) (a : Option Addr) (n cap : Nat) (x : List Int) (hn : x.length = n) (hm : n ≤ maxLen) (H : IntsAt w a x) :
    Calls Try.prog 56 #[.agg #[.int .i64 p, .int .i64 t], .slice a n cap] w fun e w' => e = .returned (.int .i64 (picE p t x)) ∧ Below w.heap.size w w' := by
  have hb0 : Below w.heap.size w (w.alloc (.cells #[.int .i64 p, .int .i64 t] 23)) := (Below.refl _ _).alloc (Nat.le_refl _) _
  have HN := hid hn
  have HH := hid (H.below hb0)
  clear hn H
  unfold maxLen at hm
  by_cases h : (n : Int) = p
  · have h1 : ((n : Int) != p) = false := by simp [h]
    have HQ := hid h
    clear h
    go_enter Try.func56, Try.ntmps56
    go_wp2
    go_loop [14] (fun i => ∃ k : Nat, k ≤ n ∧ i = .int .i64 k ∧ ∀ j, j < k → inB (x[j]?.getD 0) 0 t = true) (fun i => n - (intOf i).toNat)
    case atStart => exact ⟨0, Nat.zero_le _, rfl, fun i h => by omega⟩
    case round =>
      obtain ⟨k, hk, rfl, hno⟩ := hrel
      have HNO := hid hno
      clear hno
      by_cases hlt : k < n
      · have HKL := hid (show k < x.length by rw [HN.out]; exact hlt)
        obtain ⟨b, off, rfl, hbs, hc⟩ := HH.out k HKL.out
        cases hpx : inB (x[k]?.getD 0) 0 t
        · go_wp2_with (go_at_call 60; refine (in_c _ _ _ _).mono ?_; rintro e w1 ⟨rfl, rfl⟩)
          go_ret
          refine ⟨ret_int ?_, hb0⟩
          unfold picE; rw [HN.out, if_neg (by simp [HQ.out]), all_stop HKL.out hpx]; simp
        · have HR : Hid (∃ k_1 : Nat, k_1 ≤ n ∧ Value.int .i64 ((k : Int) + 1) = Value.int .i64 (k_1 : Int) ∧ ∀ j, j < k_1 → inB (x[j]?.getD 0) 0 t = true) := by
            refine ⟨k + 1, by omega, cast1 k, ?_⟩
            intro j hj
            by_cases e : j = k
            · subst e; exact hpx
            · exact HNO.out j (by omega)
          go_wp2_with (go_at_call 60; refine (in_c _ _ _ _).mono ?_; rintro e w1 ⟨rfl, rfl⟩)
          first | exact ⟨HR.out, meas hlt⟩ | (go_round; (case rel => exact HR.out); (case measure => exact meas hlt))
      · go_wp2
        go_ret
        refine ⟨ret_int ?_, hb0⟩
        unfold picE; rw [HN.out, if_neg (by simp [HQ.out]), all_done (fun j hj => HNO.out j (by have := HN.out; omega))]; simp
  · have h1 : ((n : Int) != p) = true := by simp [h]
    go_enter Try.func56, Try.ntmps56
    go_wp2
    go_ret
    exact ⟨ret_int (by unfold picE; rw [HN.out, if_pos h]), hb0⟩

/-- the error of a field, a row and a picture -/
def rowE (p t : Int) (row : List Int) : Int := if okField p t && okRow p row then 0 else 1
def rowedE (p t : Int) (row x : List Int) : Int := if rowE p t row = 0 then picE p t x else 1

theorem rowed_c (w : World) (p t : Int) (a : Option Addr) (n cap : Nat) (row : List Int) (hn : row.length = n) (hm : n ≤ maxLen) (H : IntsAt w a row) (a2 : Option Addr) (n2 cap2 : Nat) (x : List Int) (hn2 : x.length = n2) (hm2 : n2 ≤ maxLen) (H2 : IntsAt w a2 x) :
    Calls Try.prog 53 #[.agg #[.int .i64 p, .int .i64 t], .slice a n cap, .slice a2 n2 cap2] w fun e w' => e = .returned (.int .i64 (rowedE p t row x)) ∧ Below w.heap.size w w' := by
  have hb0 : Below w.heap.size w (w.alloc (.cells #[.int .i64 p, .int .i64 t] 23)) := (Below.refl _ _).alloc (Nat.le_refl _) _
  have HV := hid (fun (W : World) (hb : Below w.heap.size w W) => validRow_c W p a n cap row hn hm (H.below hb))
  have HP := hid (fun (W : World) (hb : Below w.heap.size w W) => pictured_c W p t a2 n2 cap2 x hn2 hm2 (H2.below hb))
  clear hn H hn2 H2
  cases hf : okField p t <;> cases hr : okRow p row
  all_goals
    go_enter Try.func53, Try.ntmps53
    go_wp2_with (first | (go_at_call 19; refine (validField_c _ _ _).mono ?_; rintro e w1 ⟨rfl, hb1⟩; obtain ⟨hc1, hf1⟩ := bcell hb1) | (go_at_call 58; refine (HV.out _ (chain hb0 hb1)).mono ?_; rintro e w2 ⟨rfl, hb2⟩; obtain ⟨hc2, hf2⟩ := bcell hb2; have hz2 : w.heap.size < w1.heap.size := by have := hb1.size; simp at this; omega) | (go_at_call 76; refine (HP.out _ (chain (chain hb0 hb1) hb2)).mono ?_; rintro e w3 ⟨rfl, hb3⟩))
    go_ret
    first
      | exact ⟨ret_int (by simp [rowedE, rowE, hf, hr]), chain (chain (chain hb0 hb1) hb2) hb3⟩
      | exact ⟨ret_int (by simp [rowedE, rowE, hf, hr]), chain (chain hb0 hb1) hb2⟩
      | exact ⟨ret_int (by simp [rowedE, rowE, hf, hr]), chain hb0 hb1⟩
end Go.Proofs.Ytdcflpfaaeijoaa

/- Walks of fault.pictures, fault.listed. -/
import Derived.Test.YthaampmdponhbaaGreatDoorFltN
namespace Go.Proofs.YthaampmdponhbaaGreatDoor
open Go.RowKit
set_option linter.unusedVariables false

theorem pictures1 (w : World) (b : Nat) (a : Option Addr) (n cap : Nat) (M : Mask) (hn : M.length = n) (hm : n ≤ maxLen) (H : RowsAt w a M) (hb : b < w.heap.size) (hc : w.cell? ⟨b, 0, none⟩ = some (.slice a n cap)) :
    PredR Tryz.prog 76 #[.pointer (some ⟨b, 0, none⟩)] w (fun x => !okShown M x) := by
  intro x v W hbw hv
  have hc' : W.cell? ⟨b, 0, none⟩ = some (.slice a n cap) := (hbw.cell (p := ⟨b, 0, none⟩) hb).trans hc
  obtain ⟨ra, rn, rc, rfl, hrn, hrm, hri⟩ := hv
  have HR := hid (maskShown_c W a n cap M hn hm (H.below hbw) ra rn rc x hrn hrm hri)
  clear hrn hri hn H hc
  go_enter Tryz.func76, Tryz.ntmps76
  go_wp2_with (go_at_call 77; refine HR.out.mono ?_; rintro e w1 ⟨rfl, hb1⟩)
  go_ret
  exact ⟨rfl, hb1⟩

/-- shown pictures, not too many -/
def picsB (M : Mask) (L : List (List Int)) : Bool := decide (L.length ≤ 12) && L.all (okShown M)
theorem picsB_iff {M : Mask} {L : List (List Int)} (h : picsB M L = true) : L.length ≤ 12 ∧ ∀ x ∈ L, okShown M x = true := by
  unfold picsB at h
  simpa using h

theorem pictures_c (w : World) (a : Option Addr) (n cap : Nat) (M : Mask) (hn : M.length = n) (hm : n ≤ maxLen) (H : RowsAt w a M) (a2 : Option Addr) (n2 cap2 : Nat) (L : List (List Int)) (hn2 : L.length = n2) (hm2 : n2 ≤ maxLen) (H2 : RowsAt w a2 L) :
    Calls Tryz.prog 39 #[.slice a n cap, .slice a2 n2 cap2] w fun e w' => e = .returned (.bool (picsB M L)) ∧ Below w.heap.size w w' := by
  have hb0 : Below w.heap.size w (w.alloc (.cells #[.slice a n cap] 23)) := (Below.refl _ _).alloc (Nat.le_refl _) _
  have hmf : ∀ (fn : Fn) (first cap : Array Value) (w : World), (Instr.makeFunc fn first cap).run Tryz.prog w = .ok (.func fn first cap) w := fun _ _ _ _ => rfl
  have HC := hid (containsR (w.alloc (.cells #[.slice a n cap] 23)) a2 n2 cap2 L hn2 hm2 (H2.below hb0) 76 #[.pointer (some ⟨w.heap.size, 0, none⟩)] _ (enters_of Tryz.func76 (by kernel_rfl) rfl)
    (pictures1 _ w.heap.size a n cap M hn hm (H.below hb0) (by simp) (by rw [World.cell?_alloc_at _ _ _ _ rfl]; rfl)))
  have HN2 := hid hn2
  unfold maxLen at hm2
  by_cases h12 : n2 ≤ 12
  · have hd : decide ((n2 : Int) ≤ 12) = true := by simp; omega
    have HQ := hid h12
    clear hn H hn2 H2 h12
    go_enter Tryz.func39, Tryz.ntmps39
    go_wp2_with (refine HC.out.mono ?_; rintro e w1 ⟨rfl, hb1⟩)
    go_ret
    exact ⟨ret_bool (by unfold picsB; rw [HN2.out, decide_eq_true HQ.out]; simp [List.all_eq_not_any_not]), chain hb0 hb1⟩
  · have hd : decide ((n2 : Int) ≤ 12) = false := by simp; omega
    have HQ := hid h12
    clear hn H hn2 H2 h12
    go_enter Tryz.func39, Tryz.ntmps39
    go_wp2
    go_ret
    exact ⟨ret_bool (by unfold picsB; rw [HN2.out, decide_eq_false HQ.out]; simp), hb0⟩

/-- the error of a mask and shown pictures -/
def listedE (M : Mask) (L : List (List Int)) : Int := if okM M = true then (if picsB M L = true then 0 else 7) else 1

theorem flisted_c (w : World) (a : Option Addr) (n cap : Nat) (M : Mask) (hn : M.length = n) (hm : n ≤ maxLen) (H : RowsAt w a M) (a2 : Option Addr) (n2 cap2 : Nat) (L : List (List Int)) (hn2 : L.length = n2) (hm2 : n2 ≤ maxLen) (H2 : RowsAt w a2 L) :
    Calls Tryz.prog 47 #[.slice a n cap, .slice a2 n2 cap2] w fun e w' => e = .returned (.int .i64 (listedE M L)) ∧ Below w.heap.size w w' := by
  have HV := hid (maskValid_c w a n cap M hn hm H)
  have HP := hid (fun (W : World) (hb : Below w.heap.size w W) => pictures_c W a n cap M hn hm (H.below hb) a2 n2 cap2 L hn2 hm2 (H2.below hb))
  clear hn H hn2 H2
  cases h1 : okM M
  · rw [h1] at HV
    have HE := hid h1
    clear h1
    go_enter Tryz.func47, Tryz.ntmps47
    go_wp2_with (go_at_call 62; refine HV.out.mono ?_; rintro e w1 ⟨rfl, hb1⟩)
    go_ret
    exact ⟨ret_int (by unfold listedE; rw [HE.out]; simp), hb1⟩
  · rw [h1] at HV
    have HE := hid h1
    clear h1
    cases h2 : picsB M L
    all_goals
      rw [h2] at HP
      have HF := hid h2
      clear h2
      go_enter Tryz.func47, Tryz.ntmps47
      go_wp2_with (first | (go_at_call 62; refine HV.out.mono ?_; rintro e w1 ⟨rfl, hb1⟩) | (go_at_call 39; refine (HP.out _ hb1).mono ?_; rintro e w2 ⟨rfl, hb2⟩))
      go_ret
      exact ⟨ret_int (by unfold listedE; rw [HE.out, HF.out]; simp), chain hb1 hb2⟩

end Go.Proofs.YthaampmdponhbaaGreatDoor

/- Walks of both packages: All, Faulty, Reads, One. -/
import Derived.Test.YthaampmdponhbaaGreatDoorFltY
namespace Go.Proofs.YthaampmdponhbaaGreatDoor
open Go.RowKit
set_option linter.unusedVariables false

theorem mask_small {M : Mask} {f : Flt} (hM : okM M = true) (hf : okF M f = true) : ∀ r ∈ faultyM M f, r.length ≤ maxLen := fun r hr => by
  have := (faultyM_cols hM hf r hr).1; have := (okM_len hM).2.2.2.1; unfold maxLen; omega

theorem faulty_v (w : World) (a : Option Addr) (n cap : Nat) (M : Mask) (hn : M.length = n) (H : RowsAt w a M) (hM : okM M = true) (f : Flt) (hf : okF M f = true) :
    Calls Tryz.prog 80 #[.slice a n cap, f.val] w fun e w' => ∃ va vc, e = .returned (.slice va n vc) ∧ RowsAt w' va (faultyM M f) ∧ Below w.heap.size w w' :=
  (faulty_c w a n cap M hn H hM f hf).mono fun e w' ⟨v, base, he, _, hown, hb⟩ => by
    obtain ⟨va, vc, hv, hr⟩ := hown.rows (mask_small hM hf)
    exact ⟨va, vc, by rw [he, hv, faultyM_row, hn], hr, hb⟩
theorem refFaulty_v (w : World) (a : Option Addr) (n cap : Nat) (M : Mask) (hn : M.length = n) (H : RowsAt w a M) (hM : okM M = true) (f : Flt) (hf : okF M f = true) :
    Calls Tryz.prog 81 #[.slice a n cap, f.val] w fun e w' => ∃ va vc, e = .returned (.slice va n vc) ∧ RowsAt w' va (faultyM M f) ∧ Below w.heap.size w w' :=
  (refFaulty_r w a n cap M hn H hM f hf).mono fun e w' ⟨v, base, he, _, hown, hb⟩ => by
    obtain ⟨va, vc, hv, _, hr, _⟩ := hown.reads
    exact ⟨va, vc, by rw [he, hv, faultyM_row, hn], hr, hb⟩

theorem r2Shown_b (w : World) (a : Option Addr) (n cap : Nat) (M : Mask) (hn : M.length = n) (hm : n ≤ maxLen) (H : RowsAt w a M) (a2 : Option Addr) (n2 cap2 : Nat) (x : List Int) (hn2 : x.length = n2) (hm2 : n2 ≤ maxLen) (H2 : IntsAt w a2 x) :
    Calls Tryz.prog 71 #[.slice a n cap, .slice a2 n2 cap2] w fun e w' => e = .returned (.bool (okShown M x)) ∧ Below w.heap.size w w' :=
  (r2Shown_c w a n cap M hn hm H a2 n2 cap2 x hn2 hm2 H2).mono fun e w' ⟨h1, h2⟩ => ⟨h1, h2 ▸ Below.refl _ _⟩

/-- the error of a fault -/
def faultE (M : Mask) (f : Flt) : Int := if validF M f = true then 0 else 1
/-- what Faulty returns -/
def faultyL (M : Mask) (f : Flt) : Mask := if validF M f = true then faultyM M f else []
/-- the error of a fault and a picture -/
def readsE (M : Mask) (f : Flt) (x : List Int) : Int := if validF M f = true then (if okShown M x = true then 0 else 7) else 1
/-- what Reads returns -/
def readsL (M : Mask) (f : Flt) (x : List Int) : List Int := if readsE M f x = 0 then readF M f x else []
/-- the error of two faults -/
def oneE (M : Mask) (f g : Flt) : Int := if validF M f = true ∧ validF M g = true then 0 else 1
/-- what One returns -/
def oneB (M : Mask) (f g : Flt) : Bool := decide (oneE M f g = 0) && decide (faultyM M f = faultyM M g)

theorem validF_ok {M : Mask} {f : Flt} (h : validF M f = true) : okM M = true ∧ okF M f = true := by
  unfold validF at h; simpa using h

end Go.Proofs.YthaampmdponhbaaGreatDoor

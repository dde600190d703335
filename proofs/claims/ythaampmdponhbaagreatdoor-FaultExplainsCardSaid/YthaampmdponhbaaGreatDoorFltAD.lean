/- Walks: the reference's part; Part of both. -/
import Derived.Test.YthaampmdponhbaaGreatDoorFltAC
namespace Go.Proofs.YthaampmdponhbaaGreatDoor
open Go.RowKit
set_option linter.unusedVariables false

theorem sameInts_d (W : World) (a a2 : Option Addr) (n n2 cap cap2 : Nat) (l l2 : List Int) (D : Bool) (hn : l.length = n) (hn2 : l2.length = n2) (hm : n ≤ maxLen) (hm2 : n2 ≤ maxLen) (H : IntsAt W a l) (H2 : IntsAt W a2 l2) (hD : D = decide (l = l2)) :
    Calls Tryz.prog 46 #[.slice a n cap, .slice a2 n2 cap2] W fun e w' => e = .returned (.bool D) ∧ Below W.heap.size W w' := by
  subst hD
  exact (sameInts_c W a a2 n cap n2 cap2 l l2 hn hn2 hm hm2 H H2).mono fun e w' ⟨h1, k, h2⟩ => ⟨h1, by rw [h2]; exact below_drewN (Below.refl _ _) _⟩

theorem reads_v (w : World) (a : Option Addr) (n cap : Nat) (M : Mask) (hn : M.length = n) (H : RowsAt w a M) (hM : okM M = true) (f : Flt) (hf : okF M f = true) (a2 : Option Addr) (n2 cap2 : Nat) (x : List Int) (hn2 : x.length = n2) (H2 : IntsAt w a2 x) (hx : okShown M x = true) :
    Calls Tryz.prog 44 #[.slice a n cap, f.val, .slice a2 n2 cap2] w fun e w' => ∃ va vc, e = .returned (.slice va n vc) ∧ IntsAt w' va (readF M f x) ∧ Below w.heap.size w w' :=
  (reads_c w a n cap M hn H hM f hf a2 n2 cap2 x hn2 H2 hx).mono fun e w' ⟨v, base, he, _, hown, hb⟩ => by
    obtain ⟨va, vc, hv, hI⟩ := ints_own hown (by rw [readF_length, hn])
    exact ⟨va, vc, by rw [he, hv], hI, hb⟩
theorem refReads_v (w : World) (a : Option Addr) (n cap : Nat) (M : Mask) (hn : M.length = n) (H : RowsAt w a M) (hM : okM M = true) (f : Flt) (hf : okF M f = true) (a2 : Option Addr) (n2 cap2 : Nat) (x : List Int) (hn2 : x.length = n2) (H2 : IntsAt w a2 x) (hx : okShown M x = true) :
    Calls Tryz.prog 45 #[.slice a n cap, f.val, .slice a2 n2 cap2] w fun e w' => ∃ va vc, e = .returned (.slice va n vc) ∧ IntsAt w' va (readF M f x) ∧ Below w.heap.size w w' :=
  (refReads_c w a n cap M hn H hM f hf a2 n2 cap2 x hn2 H2 hx).mono fun e w' ⟨v, base, he, _, hown, hb⟩ => by
    obtain ⟨va, vc, hv, hI⟩ := ints_own hown (by rw [readF_length, hn])
    exact ⟨va, vc, by rw [he, hv], hI, hb⟩

end Go.Proofs.YthaampmdponhbaaGreatDoor

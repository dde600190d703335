/- Walk: the greatest common divisor (frac). -/
import Derived.Test.YtfipebkhomppmaaFltB
import Derived.Test.YtfipebkhomppmaaApp
import Derived.Test.YtfipebkhomppmaaLinD
import Derived.IntWalk
namespace Go.Proofs.Ytfipebkhomppmaa
open Go.RowKit
set_option linter.unusedVariables false

theorem drewN_add (w : World) (a b : Nat) : (w.drewN a).drewN b = w.drewN (a + b) := by simp [World.drewN, Nat.add_assoc]
theorem gcd_mod (x y : Nat) (hy : 0 < y) : Nat.gcd y (x % y) = Nat.gcd x y := by rw [Nat.gcd_comm x y, Nat.gcd_rec y x, Nat.gcd_comm]

theorem divisor_c (w : World) (a b : Int) (ha : -4611686018427387904 ≤ a ∧ a ≤ 4611686018427387904) (hb : -4611686018427387904 ≤ b ∧ b ≤ 4611686018427387904) :
    Calls Try.prog 76 #[.int .i64 a, .int .i64 b] w fun e w' => e = .returned (.int .i64 (Int.gcd a b : Nat)) ∧ ∃ k, w' = w.drewN k := by
  obtain ⟨x, hx⟩ : ∃ x : Nat, x = a.natAbs := ⟨_, rfl⟩
  obtain ⟨y, hy⟩ : ∃ y : Nat, y = b.natAbs := ⟨_, rfl⟩
  have HG := hid (show Nat.gcd x y = Int.gcd a b by rw [hx, hy]; rfl)
  have hx2 : x ≤ 4611686018427387904 := by omega
  have hy2 : y ≤ 4611686018427387904 := by omega
  obtain ⟨ha1, ha2⟩ := ha
  obtain ⟨hb1, hb2⟩ := hb
  rcases Int.lt_or_le a 0 with sa | sa <;> rcases Int.lt_or_le b 0 with sb | sb
  all_goals
    have HX := hid hx
    have HY := hid hy
    clear hx hy
    go_enter Try.func76, Try.ntmps76
    go_wp2
    go_loopw [0, 1] (fun u v wr => ∃ p q : Nat, u = .int .i64 p ∧ v = .int .i64 q ∧ p ≤ 4611686018427387904 ∧ q ≤ 4611686018427387904 ∧ Nat.gcd p q = Nat.gcd x y ∧ ∃ k, wr = w.drewN k) (fun _ v _ => (intOf v).toNat)
    case atStart =>
      have h1 := HX.out
      have h2 := HY.out
      exact ⟨x, y, by congr 1; omega, by congr 1; omega, hx2, hy2, rfl, 0, rfl⟩
    case round =>
      obtain ⟨p, q, rfl, rfl, hp, hq, hg, k, rfl⟩ := hrel
      have HGG := hid hg
      clear hg
      by_cases h0 : q = 0
      · subst h0
        go_wp2
        go_ret
        refine ⟨ret_int ?_, _, rfl⟩
        have h1 := HGG.out
        rw [Nat.gcd_zero_right] at h1
        rw [h1, HG.out]
      · have hq1 : 1 ≤ q := by omega
        have hne : ((q : Int) != 0) = true := by simp; omega
        clear h0
        have hm1 : p % q < q := Nat.mod_lt _ hq1
        have hgm := gcd_mod p q hq1
        have HGM := hid (hgm.trans HGG.out)
        have HM := hid hm1
        have HE := hid (show ((p : Int) % (q : Int)) = ((p % q : Nat) : Int) by simp)
        clear hgm hm1
        go_wp2
        go_quiet (fail)
        go_wp2
        have hm1 := HM.out
        exact ⟨⟨q, p % q, rfl, by rw [HE.out], hq, by omega, HGM.out, _, drewN_add _ _ _⟩, by rw [HE.out]; simp [intOf]; omega⟩
end Go.Proofs.Ytfipebkhomppmaa

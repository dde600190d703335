/- The statement LinSolves: the walk. -/
import Derived.Test.YtfipebkhomppmaaRatG
import Derived.Test.YtfipebkhomppmaaLwAD
import Derived.Test.YtfipebkhomppmaaOpen
namespace Go.Proofs.Ytfipebkhomppmaa
open Go.RowKit
set_option linter.unusedVariables false

/-- two lists of ints, as a slice of two -/
theorem rows_twoS {W : World} {a2 a3 : Option Addr} {n2 c2 n3 c3 : Nat} {h l : List Int} (hn2 : h.length = n2) (hm2 : n2 ≤ maxLen) (H2 : IntsAt W a2 h) (hn3 : l.length = n3) (hm3 : n3 ≤ maxLen) (H3 : IntsAt W a3 l) :
    RowsAt (W.alloc (.cells #[.slice a2 n2 c2, .slice a3 n3 c3] 31)) (some ⟨W.heap.size, 0, none⟩) [h, l] := by
  have hb : Below W.heap.size W (W.alloc (.cells #[.slice a2 n2 c2, .slice a3 n3 c3] 31)) := (Below.refl _ _).alloc (Nat.le_refl _) _
  intro j hj
  match j, hj with
  | 0, _ => exact ⟨_, 0, a2, n2, c2, rfl, by simp, by rw [World.cell?_alloc_at _ _ _ _ rfl]; rfl, hn2, hm2, H2.below hb⟩
  | 1, _ => exact ⟨_, 0, a3, n3, c3, rfl, by simp, by rw [World.cell?_alloc_at _ _ _ _ rfl]; rfl, hn3, hm3, H3.below hb⟩

def rankV (M : Mask) : Int := if okM M = true then (rankF M (colsM M) : Nat) else 0
def rankE (M : Mask) : Int := if okM M = true then 0 else 1
theorem rank_c2 (w : World) (a : Option Addr) (n cap : Nat) (M : Mask) (hn : M.length = n) (hm : n ≤ maxLen) (H : RowsAt w a M) :
    Calls Try.prog 31 #[.slice a n cap] w fun e w' => e = .returned (.tuple #[.int .i64 (rankV M), .int .i64 (rankE M)]) ∧ Below w.heap.size w w' :=
  (rank_c w a n cap M hn hm H).mono fun e w' ⟨hb, h⟩ => ⟨by unfold rankV rankE; rcases h with ⟨e1, e2⟩ | ⟨e1, e2⟩ <;> rw [e2, e1] <;> rfl, hb⟩
theorem r3Rank_c2 (w : World) (a : Option Addr) (n cap : Nat) (M : Mask) (hn : M.length = n) (hm : n ≤ maxLen) (H : RowsAt w a M) :
    Calls Try.prog 37 #[.slice a n cap] w fun e w' => e = .returned (.tuple #[.int .i64 (rankV M), .int .i64 (rankE M)]) ∧ Below w.heap.size w w' :=
  (r3Rank_c w a n cap M hn hm H).mono fun e w' ⟨hb, h⟩ => ⟨by unfold rankV rankE; rcases h with ⟨e1, e2⟩ | ⟨e1, e2⟩ <;> rw [e2, e1] <;> rfl, hb⟩

set_option maxRecDepth 100000 in
set_option maxHeartbeats 4000000 in
theorem linSolves_c (w : World) (a : Option Addr) (n cap : Nat) (M : Mask) (hn : M.length = n) (hm : n ≤ maxLen) (H : RowsAt w a M) (_ : ∀ y ∈ M, ∀ z ∈ y, Fits64 z) (a2 : Option Addr) (n2 cap2 : Nat) (l : List Int) (hn2 : l.length = n2) (hm2 : n2 ≤ maxLen) (H2 : IntsAt w a2 l) (_ : ∀ y ∈ l, Fits64 y)
    (a3 : Option Addr) (n3 cap3 : Nat) (y : List Int) (hn3 : y.length = n3) (hm3 : n3 ≤ maxLen) (H3 : IntsAt w a3 y) (_ : ∀ z ∈ y, Fits64 z) :
    Calls Try.prog 8 #[.slice a n cap, .slice a2 n2 cap2, .slice a3 n3 cap3] w fun e w' => e = .returned (.bool true) ∧ Below w.heap.size w w' := by
  have HAW := hid (fun X => awake_c X)
  have HSM := hid (small_c w a n cap M hn hm H none 0 0)
  have HLG := hid (long_c (w.alloc (.cells #[.slice a2 n2 cap2, .slice a3 n3 cap3] 31)) (some ⟨w.heap.size, 0, none⟩) 2 2 [l, y] rfl (by decide) (rows_twoS hn2 hm2 H2 hn3 hm3 H3))
  have HB1 := hid (show Below w.heap.size w (w.alloc (.cells #[.slice a2 n2 cap2, .slice a3 n3 cap3] 31)) from (Below.refl _ _).alloc (Nat.le_refl _) _)
  have HR1 := hid (fun (X : World) (hX : Below w.heap.size w X) => rank_c2 X a n cap M hn hm (H.below hX))
  have HR2 := hid (fun (X : World) (hX : Below w.heap.size w X) => r3Rank_c2 X a n cap M hn hm (H.below hX))
  have HI1 := hid (fun (X : World) (hX : Below w.heap.size w X) => independent_c X a a2 n cap n2 cap2 M l hn hn2 hm hm2 (H.below hX) (H2.below hX))
  have HI2 := hid (fun (X : World) (hX : Below w.heap.size w X) => r3Independent_c X a a2 n cap n2 cap2 M l hn hn2 hm hm2 (H.below hX) (H2.below hX))
  have HS1 := hid (fun (X : World) (hX : Below w.heap.size w X) => solve_c X a a2 a3 n cap n2 cap2 n3 cap3 M l y hn hn2 hn3 hm hm2 hm3 (H.below hX) (H2.below hX) (H3.below hX))
  have HS2 := hid (fun (X : World) (hX : Below w.heap.size w X) => r3Solve_c X a a2 a3 n cap n2 cap2 n3 cap3 M l y hn hn2 hn3 hm hm2 hm3 (H.below hX) (H2.below hX) (H3.below hX))
  obtain ⟨B0, hB0⟩ : ∃ B, B = longB [l, y] := ⟨_, rfl⟩
  rw [← hB0] at HLG
  obtain ⟨rk, hrk⟩ : ∃ B, B = rankV M := ⟨_, rfl⟩
  obtain ⟨rE, hrE⟩ : ∃ B, B = rankE M := ⟨_, rfl⟩
  rw [← hrk, ← hrE] at HR1 HR2
  obtain ⟨⟨iB, iE⟩, hI⟩ : ∃ B, B = indepV M l := ⟨_, rfl⟩
  rw [← hI] at HI1 HI2
  obtain ⟨⟨sV, sE⟩, hS⟩ : ∃ B, B = solveV M l y := ⟨_, rfl⟩
  rw [← hS] at HS1 HS2
  simp only [] at HI1 HI2 HS1 HS2
  have b1 : (rk == rk) = true := by simp
  have b2 : (rE == rE) = true := by simp
  have b3 : (iB == iB) = true := by simp
  have b4 : (iE == iE) = true := by simp
  have b5 : (sE == sE) = true := by simp
  clear hn hn2 hn3 H H2 H3 hB0 hrk hrE hI hS
  go_enter Try.func8, Try.ntmps8
  go_wp2_with (go_at_call 23; refine HSM.out.mono ?_; rintro e w1 ⟨⟨sb, rfl⟩, rfl⟩; refine Stop.of ?_)
  refine Stop.go ?_
  cases sb
  · go_wp2_with (go_at_call 14; refine (HAW.out _).mono ?_; rintro e w2 ⟨rfl, hb2⟩)
    go_ret
    exact ⟨rfl, hb2⟩
  · go_wp2_with (go_at_call 24; refine HLG.out.mono ?_; rintro e w2 ⟨rfl, hw2⟩; refine Stop.of ?_)
    refine Stop.go ?_
    rw [hw2] at HB1
    clear hw2 HLG HSM
    cases B0
    · go_wp2_with (go_at_call 31; refine (HR1.out _ HB1.out).mono ?_; rintro e w3 ⟨rfl, hb3⟩; refine Stop.of ?_)
      refine Stop.go ?_
      have HB3 := hid (chain HB1.out hb3)
      clear hb3 HB1 HR1
      go_wp2_with (go_at_call 37; refine (HR2.out _ HB3.out).mono ?_; rintro e w4 ⟨rfl, hb4⟩; refine Stop.of ?_)
      refine Stop.go ?_
      have HB4 := hid (chain HB3.out hb4)
      clear hb4 HB3 HR2
      go_wp2_with (go_at_call 34; refine (HI1.out _ HB4.out).mono ?_; rintro e w5 ⟨rfl, hb5⟩; refine Stop.of ?_)
      refine Stop.go ?_
      have HB5 := hid (chain HB4.out hb5)
      clear hb5 HB4 HI1
      go_wp2_with (go_at_call 38; refine (HI2.out _ HB5.out).mono ?_; rintro e w6 ⟨rfl, hb6⟩; refine Stop.of ?_)
      refine Stop.go ?_
      have HB6 := hid (chain HB5.out hb6)
      clear hb6 HB5 HI2
      go_wp2_with (go_at_call 39; refine (HS1.out _ HB6.out).mono ?_; rintro e w7 ⟨v7, base7, rfl, hbs7, ho7, hb7⟩; refine Stop.of ?_)
      refine Stop.go ?_
      have HB7 := hid (chain HB6.out hb7)
      obtain ⟨va, vc, rfl, hvm, hvA⟩ := ho7.reads
      have HVA := hid hvA
      clear hb7 HB6 HS1 ho7 hvA
      go_wp2_with (go_at_call 40; refine (HS2.out _ HB7.out).mono ?_; rintro e w8 ⟨v8, base8, rfl, hbs8, ho8, hb8⟩; refine Stop.of ?_)
      refine Stop.go ?_
      have HB8 := hid (chain HB7.out hb8)
      have HVA8 := hid (HVA.out.below hb8)
      obtain ⟨ua, uc, rfl, hum, huA⟩ := ho8.reads
      have HSR := hid (sameRatios_c w8 va ua sV.length vc sV.length uc sV sV rfl rfl hvm hvm HVA8.out huA)
      have hdd : decide (sV = sV) = true := by simp
      rw [hdd] at HSR
      clear hb8 HB7 HS2 ho8 huA hdd hum
      go_wp2_with (go_at_call 41; refine HSR.out.mono ?_; rintro e w9 ⟨rfl, k9, rfl⟩; refine Stop.of ?_)
      refine Stop.go ?_
      have HB9 := hid (below_drewN HB8.out k9)
      clear HB8 HSR
      go_wp2_with (go_at_call 14; refine (HAW.out _).mono ?_; rintro e w10 ⟨rfl, hb10⟩)
      go_ret
      exact ⟨rfl, chain HB9.out hb10⟩
    · go_wp2_with (go_at_call 14; refine (HAW.out _).mono ?_; rintro e w3 ⟨rfl, hb3⟩)
      go_ret
      exact ⟨rfl, chain HB1.out hb3⟩
end Go.Proofs.Ytfipebkhomppmaa

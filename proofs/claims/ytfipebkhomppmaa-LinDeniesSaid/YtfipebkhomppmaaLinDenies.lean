/- The statement LinDenies: the walk. -/
import Derived.Test.YtfipebkhomppmaaDenB
import Derived.Test.YtfipebkhomppmaaLwAD
import Derived.Test.YtfipebkhomppmaaOpenR
namespace Go.Proofs.Ytfipebkhomppmaa
open Go.RowKit
set_option linter.unusedVariables false

/-- two lists of ints, as a slice of two -/
theorem rows_twoD {W : World} {a2 a3 : Option Addr} {n2 c2 n3 c3 : Nat} {h l : List Int} (hn2 : h.length = n2) (hm2 : n2 ≤ maxLen) (H2 : IntsAt W a2 h) (hn3 : l.length = n3) (hm3 : n3 ≤ maxLen) (H3 : IntsAt W a3 l) :
    RowsAt (W.alloc (.cells #[.slice a2 n2 c2, .slice a3 n3 c3] 31)) (some ⟨W.heap.size, 0, none⟩) [h, l] := by
  have hb : Below W.heap.size W (W.alloc (.cells #[.slice a2 n2 c2, .slice a3 n3 c3] 31)) := (Below.refl _ _).alloc (Nat.le_refl _) _
  intro j hj
  match j, hj with
  | 0, _ => exact ⟨_, 0, a2, n2, c2, rfl, by simp, by rw [World.cell?_alloc_at _ _ _ _ rfl]; rfl, hn2, hm2, H2.below hb⟩
  | 1, _ => exact ⟨_, 0, a3, n3, c3, rfl, by simp, by rw [World.cell?_alloc_at _ _ _ _ rfl]; rfl, hn3, hm3, H3.below hb⟩

set_option maxRecDepth 100000 in
set_option maxHeartbeats 4000000 in
theorem linDenies_c (w : World) (a : Option Addr) (n cap : Nat) (M : Mask) (hn : M.length = n) (hm : n ≤ maxLen) (H : RowsAt w a M) (_ : ∀ y ∈ M, ∀ z ∈ y, Fits64 z) (a2 : Option Addr) (n2 cap2 : Nat) (y : List Int) (hn2 : y.length = n2) (hm2 : n2 ≤ maxLen) (H2 : IntsAt w a2 y) (_ : ∀ z ∈ y, Fits64 z)
    (a3 : Option Addr) (n3 cap3 : Nat) (z : List Int) (hn3 : z.length = n3) (hm3 : n3 ≤ maxLen) (H3 : IntsAt w a3 z) (_ : ∀ y ∈ z, Fits64 y) (a4 : Option Addr) (n4 cap4 : Nat) (x : List Rt) (hn4 : x.length = n4) (hm4 : n4 ≤ maxLen) (H4 : RatsAt w a4 x) (_ : ∀ r ∈ x, Fits64 r.1 ∧ Fits64 r.2) :
    Calls Try.prog 12 #[.slice a n cap, .slice a2 n2 cap2, .slice a3 n3 cap3, .slice a4 n4 cap4] w fun e w' => e = .returned (.bool true) ∧ Below w.heap.size w w' := by
  have HAW := hid (fun X => awake_c X)
  have HSM := hid (small_c w a n cap M hn hm H a4 n4 cap4)
  have HLG := hid (long_c (w.alloc (.cells #[.slice a2 n2 cap2, .slice a3 n3 cap3] 31)) (some ⟨w.heap.size, 0, none⟩) 2 2 [y, z] rfl (by decide) (rows_twoD hn2 hm2 H2 hn3 hm3 H3))
  have HB1 := hid (show Below w.heap.size w (w.alloc (.cells #[.slice a2 n2 cap2, .slice a3 n3 cap3] 31)) from (Below.refl _ _).alloc (Nat.le_refl _) _)
  have HD1 := hid (fun (X : World) (hX : Below w.heap.size w X) => ldenies_c X a a2 a3 n cap n2 cap2 n3 cap3 M y z hn hn2 hn3 hm hm2 hm3 (H.below hX) (H2.below hX) (H3.below hX))
  have HD2 := hid (fun (X : World) (hX : Below w.heap.size w X) => r3Denies_c X a a2 a3 n cap n2 cap2 n3 cap3 M y z hn hn2 hn3 hm hm2 hm3 (H.below hX) (H2.below hX) (H3.below hX))
  have HPO := hid (fun (X : World) (hX : Below w.heap.size w X) => lpossible_c X a a2 n cap n2 cap2 M y hn hn2 hm hm2 (H.below hX) (H2.below hX))
  have HMK := hid (fun (X : World) (hX : Below w.heap.size w X) => lmakes_c X a a4 a2 n cap n4 cap4 n2 cap2 M x y hn hn4 hn2 hm hm4 hm2 (H.below hX) (H4.below hX) (H2.below hX))
  have HA1 := hid (fun (h : denyB M y z = true) => deny_makes (x := x) h)
  have HA2 := hid (fun (h : denyB M y z = true) => deny_conf h)
  obtain ⟨B0, hB0⟩ : ∃ B, B = longB [y, z] := ⟨_, rfl⟩
  rw [← hB0] at HLG
  obtain ⟨db, hdb⟩ : ∃ B, B = denyB M y z := ⟨_, rfl⟩
  rw [← hdb] at HD1 HD2 HA1 HA2
  obtain ⟨mb, hmb⟩ : ∃ B, B = makesB M x y := ⟨_, rfl⟩
  rw [← hmb] at HMK HA1
  obtain ⟨⟨pB, pE⟩, hpv⟩ : ∃ B, B = possV M y := ⟨_, rfl⟩
  rw [← hpv] at HPO HA2
  simp only [] at HPO
  clear hn hn2 hn3 hn4 H H2 H3 H4 hB0 hdb hmb hpv
  go_enter Try.func12, Try.ntmps12
  go_wp2_with (go_at_call 23; refine HSM.out.mono ?_; rintro e w1 ⟨⟨sb, rfl⟩, rfl⟩; refine Stop.of ?_)
  refine Stop.go ?_
  cases sb
  · go_wp2_with (go_at_call 14; refine (HAW.out _).mono ?_; rintro e w2 ⟨rfl, hb2⟩)
    go_ret
    exact ⟨rfl, hb2⟩
  · go_wp2_with (go_at_call 24; refine HLG.out.mono ?_; rintro e w2 ⟨rfl, hw2⟩; refine Stop.of ?_)
    refine Stop.go ?_
    rw [hw2] at HB1
    clear hw2 HLG HSM
    cases B0
    · go_wp2_with (go_at_call 56; refine (HD1.out _ HB1.out).mono ?_; rintro e w3 ⟨rfl, hb3⟩; refine Stop.of ?_)
      refine Stop.go ?_
      have HB3 := hid (chain HB1.out hb3)
      clear hb3 HB1 HD1
      go_wp2_with (go_at_call 57; refine (HD2.out _ HB3.out).mono ?_; rintro e w4 ⟨rfl, hb4⟩; refine Stop.of ?_)
      refine Stop.go ?_
      have HB4 := hid (chain HB3.out hb4)
      have hbb : (db != db) = false := by cases db <;> rfl
      clear hb4 HB3 HD2
      cases db
      · go_wp2_with (go_at_call 14; refine (HAW.out _).mono ?_; rintro e w5 ⟨rfl, hb5⟩)
        go_ret
        exact ⟨rfl, chain HB4.out hb5⟩
      · clear hbb
        obtain rfl : mb = false := HA1.out rfl
        obtain ⟨rfl, rfl⟩ := Prod.mk.inj (HA2.out rfl)
        go_wp2_with (go_at_call 58; refine (HPO.out _ HB4.out).mono ?_; rintro e w5 ⟨rfl, hb5⟩; refine Stop.of ?_)
        refine Stop.go ?_
        have HB5 := hid (chain HB4.out hb5)
        clear hb5 HPO HB4
        go_wp2_with (go_at_call 50; refine (HMK.out _ HB5.out).mono ?_; rintro e w6 ⟨rfl, hb6⟩; refine Stop.of ?_)
        refine Stop.go ?_
        have HB6 := hid (chain HB5.out hb6)
        clear hb6 HMK HB5
        go_wp2_with (go_at_call 14; refine (HAW.out _).mono ?_; rintro e w7 ⟨rfl, hb7⟩)
        go_ret
        exact ⟨rfl, chain HB6.out hb7⟩
    · go_wp2_with (go_at_call 14; refine (HAW.out _).mono ?_; rintro e w3 ⟨rfl, hb3⟩)
      go_ret
      exact ⟨rfl, chain HB1.out hb3⟩
end Go.Proofs.Ytfipebkhomppmaa

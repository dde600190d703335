/- The statement LinCircuits: the walk. -/
import Derived.Test.YtfipebkhomppmaaLwAG
import Derived.Test.YtfipebkhomppmaaOpen
namespace Go.Proofs.Ytfipebkhomppmaa
open Go.RowKit
set_option linter.unusedVariables false

set_option maxRecDepth 100000 in
set_option maxHeartbeats 4000000 in
theorem linCircuits_c (w : World) (a : Option Addr) (n cap : Nat) (M : Mask) (hn : M.length = n) (hm : n ≤ maxLen) (H : RowsAt w a M) (_ : ∀ y ∈ M, ∀ z ∈ y, Fits64 z) :
    Calls Try.prog 3 #[.slice a n cap] w fun e w' => e = .returned (.bool true) ∧ Below w.heap.size w w' := by
  have HAW := hid (fun X => awake_c X)
  have HLI := hid (light_c w a n cap M hn hm H)
  have HC1 := hid (fun (X : World) (hX : Below w.heap.size w X) => circuits_c X a n cap M hn hm (H.below hX))
  have HC2 := hid (fun (X : World) (hX : Below w.heap.size w X) => r3Circuits_c X a n cap M hn hm (H.below hX))
  have HS1 := hid (fun (X : World) (hX : Below w.heap.size w X) => spark_c X a n cap M hn hm (H.below hX))
  have HS2 := hid (fun (X : World) (hX : Below w.heap.size w X) => r3Spark_c X a n cap M hn hm (H.below hX))
  have HF1 := hid (fun (X : World) (hX : Below w.heap.size w X) => circuit_c X a n cap M hn hm (H.below hX))
  have HF2 := hid (fun (X : World) (hX : Below w.heap.size w X) => r3Circuit_c X a n cap M hn hm (H.below hX))
  have hcl : okM M = true → (circP M (colsM M)).length ≤ maxLen ∧ ∀ r ∈ circP M (colsM M), r.length ≤ maxLen := fun hok => by
    obtain ⟨hM, h1, h6, hc1, hc10⟩ := okM_ok hok
    refine ⟨?_, fun r hr => ?_⟩
    · rw [← circK_all hM (Nat.le_refl _)]
      have h1 := circK_le M (colsM M) (allS (colsM M)).length
      have h2 := allS_le hc10
      unfold maxLen; omega
    · unfold circP at hr
      obtain ⟨k, hk, hr⟩ := List.mem_flatMap.1 hr
      obtain ⟨S, hS, hc⟩ := List.mem_filterMap.1 hr
      have hne : S ≠ [] := fun e => by have := comb_len _ _ _ S hS; rw [e] at this; simp at this
      have := (circ_facts hM (comb_ok hS) hne hc).1
      unfold maxLen; omega
  obtain ⟨D, er, hD⟩ : ∃ (D : List (List Int)) (er : Int), (okM M = false ∧ D = [] ∧ er = 1) ∨ (okM M = true ∧ D = circP M (colsM M) ∧ er = 0) := by
    cases h : okM M
    · exact ⟨[], 1, .inl ⟨rfl, rfl, rfl⟩⟩
    · exact ⟨_, 0, .inr ⟨rfl, rfl, rfl⟩⟩
  obtain ⟨k2, hk2⟩ : ∃ k2, k2 = D.length := ⟨_, rfl⟩
  have hkm : k2 ≤ maxLen := by
    rcases hD with ⟨_, h, _⟩ | ⟨h1, h, _⟩
    · rw [hk2, h]; decide
    · rw [hk2, h]; exact (hcl h1).1
  have HC1' := hid (fun (X : World) (hX : Below w.heap.size w X) => (HC1.out X hX).mono (R' := fun e w' => ∃ b c, e = .returned (.tuple #[.slice b k2 c, .int .i64 er]) ∧ RowsAt w' b D ∧ Below X.heap.size X w') (by
    rintro e w2 ⟨v, base, hbs, hb, ⟨h1, rfl⟩ | ⟨h1, rfl, hR⟩⟩
    · rcases hD with ⟨_, h2, h3⟩ | ⟨h2, _⟩
      · rw [hk2, h2, h3]
        exact ⟨none, 0, rfl, fun j hj => by simp at hj, hb⟩
      · rw [h1] at h2; cases h2
    · rcases hD with ⟨h2, _⟩ | ⟨_, h2, h3⟩
      · rw [h1] at h2; cases h2
      · obtain ⟨b, c, rfl, hm2, hRA, _⟩ := hR.reads
        rw [hk2, h2, h3]
        exact ⟨b, c, rfl, hRA, hb⟩))
  have HC2' := hid (fun (X : World) (hX : Below w.heap.size w X) => (HC2.out X hX).mono (R' := fun e w' => ∃ b c, e = .returned (.tuple #[.slice b k2 c, .int .i64 er]) ∧ RowsAt w' b D ∧ Below X.heap.size X w') (by
    rintro e w2 ⟨v, base, hbs, hb, ⟨h1, rfl⟩ | ⟨h1, rfl, hT⟩⟩
    · rcases hD with ⟨_, h2, h3⟩ | ⟨h2, _⟩
      · rw [hk2, h2, h3]
        exact ⟨none, 0, rfl, fun j hj => by simp at hj, hb⟩
      · rw [h1] at h2; cases h2
    · rcases hD with ⟨h2, _⟩ | ⟨_, h2, h3⟩
      · rw [h1] at h2; cases h2
      · obtain ⟨b, c, rfl⟩ : ∃ a c, v = .slice a (circP M (colsM M)).length c := by
          obtain ⟨_, ho1, _⟩ := hT
          exact ownsRow_slice ho1
        rw [hk2, h2, h3]
        exact ⟨b, c, rfl, hT.rows rfl (hcl h1).2, hb⟩))
  obtain ⟨⟨l, z⟩, hlz⟩ : ∃ p, p = circV M := ⟨_, rfl⟩
  rw [← hlz] at HS1 HS2 HF1 HF2
  have HDK := hid hk2.symm
  clear hn H hcl hlz hk2 hD HC1 HC2
  go_enter Try.func3, Try.ntmps3
  go_wp2_with (go_at_call 13; refine HLI.out.mono ?_; rintro e w1 ⟨⟨sb, rfl⟩, rfl⟩; refine Stop.of ?_)
  refine Stop.go ?_
  cases sb
  · go_wp2_with (go_at_call 14; refine (HAW.out _).mono ?_; rintro e w2 ⟨rfl, hb2⟩)
    go_ret
    exact ⟨rfl, hb2⟩
  · clear HLI
    go_wp2_with (go_at_call 15; refine (HC1'.out _ (Below.refl _ _)).mono ?_; rintro e w2 ⟨b2, c2, rfl, hR2, hb2⟩; refine Stop.of ?_)
    refine Stop.go ?_
    have HB2 := hid hb2
    have HR2' := hid hR2
    clear hb2 hR2
    go_wp2_with (go_at_call 16; refine (HC2'.out _ HB2.out).mono ?_; rintro e w3 ⟨b3, c3, rfl, hR3, hb3⟩; refine Stop.of ?_)
    refine Stop.go ?_
    have HR3 := hid hR3
    have HR2 := hid (HR2'.out.below hb3)
    have HB3 := hid (chain HB2.out hb3)
    clear hb3 hR3 HR2' HC1' HC2'
    go_wp2_with (go_at_call 17; refine (HS1.out _ HB3.out).mono ?_; rintro e w4 ⟨hb4, rfl⟩; refine Stop.of ?_)
    refine Stop.go ?_
    have HB4 := hid (chain HB3.out hb4)
    go_wp2_with (go_at_call 18; refine (HS2.out _ HB4.out).mono ?_; rintro e w5 ⟨hb5, rfl⟩; refine Stop.of ?_)
    refine Stop.go ?_
    have HB5 := hid (chain HB4.out hb5)
    go_wp2_with (go_at_call 19; refine (HF1.out _ HB5.out).mono ?_; rintro e w6 ⟨hb6, xb, xk, xc, rfl, hxk, hxm, hxi⟩; refine Stop.of ?_)
    refine Stop.go ?_
    have HB6 := hid (chain HB5.out hb6)
    have HXI := hid hxi
    have HXK := hid hxk
    clear hxi hxk
    go_wp2_with (go_at_call 20; refine (HF2.out _ HB6.out).mono ?_; rintro e w7 ⟨hb7, yb, yk, yc, rfl, hyk, hym, hyi⟩; refine Stop.of ?_)
    refine Stop.go ?_
    have HB7 := hid (chain HB6.out hb7)
    have hb37 := chain (chain (chain hb4 hb5) hb6) hb7
    have HSL := hid (sameLists_c w7 b2 b3 k2 c2 k2 c3 D D HDK.out HDK.out hkm hkm (HR2.out.below hb37) (HR3.out.below hb37))
    have hdd : decide (D = D) = true := by simp
    rw [hdd] at HSL
    have HX7 := hid (HXI.out.below hb7)
    have HY7 := hid hyi
    have HYK := hid hyk
    clear hdd hb37 hb4 hb5 hb6 hb7 hyi hyk HR2 HR3
    go_wp2_with (go_at_call 21; refine HSL.out.mono ?_; rintro e w8 ⟨rfl, q8, rfl⟩; refine Stop.of ?_)
    refine Stop.go ?_
    have hb8 := below_drewN (Below.refl w7.heap.size w7) q8
    have HSI := hid (sameInts_c (w7.drewN q8) xb yb xk xc yk yc l l HXK.out HYK.out hxm hym (HX7.out.below hb8) (HY7.out.below hb8))
    have hdd : decide (l = l) = true := by simp
    rw [hdd] at HSI
    have HB8 := hid (chain HB7.out hb8)
    have heq : ((er : Int) == er) = true := by simp
    clear hdd hb8 HSL
    generalize w7.drewN q8 = w8 at HSI HB8 ⊢
    go_wp2_with (go_at_call 22; refine HSI.out.mono ?_; rintro e w9 ⟨rfl, q9, rfl⟩; refine Stop.of ?_)
    refine Stop.go ?_
    have HB9 := hid (below_drewN HB8.out q9)
    generalize w8.drewN q9 = w9 at HB9 ⊢
    go_wp2_with (go_at_call 14; refine (HAW.out _).mono ?_; rintro e w10 ⟨rfl, hb10⟩)
    go_ret
    exact ⟨rfl, chain HB9.out hb10⟩
end Go.Proofs.Ytfipebkhomppmaa

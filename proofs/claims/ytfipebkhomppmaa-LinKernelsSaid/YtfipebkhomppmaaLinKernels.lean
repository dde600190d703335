/- The statement LinKernels: the walk. -/
import Derived.Test.YtfipebkhomppmaaLwAD
import Derived.Test.YtfipebkhomppmaaOpen
namespace Go.Proofs.Ytfipebkhomppmaa
open Go.RowKit
set_option linter.unusedVariables false

set_option maxRecDepth 100000 in
set_option maxHeartbeats 4000000 in
theorem linKernels_c (w : World) (a : Option Addr) (n cap : Nat) (M : Mask) (hn : M.length = n) (hm : n ≤ maxLen) (H : RowsAt w a M) (_ : ∀ y ∈ M, ∀ z ∈ y, Fits64 z) (a2 : Option Addr) (n2 cap2 : Nat) (h : List Int) (hn2 : h.length = n2) (hm2 : n2 ≤ maxLen) (H2 : IntsAt w a2 h) (_ : ∀ z ∈ h, Fits64 z) :
    Calls Try.prog 4 #[.slice a n cap, .slice a2 n2 cap2] w fun e w' => e = .returned (.bool true) ∧ Below w.heap.size w w' := by
  have HAW := hid (fun X => awake_c X)
  have HSM := hid (small_c w a n cap M hn hm H none 0 0)
  have HLG := hid (long_c (w.alloc (.cells #[.slice a2 n2 cap2] 31)) (some ⟨w.heap.size, 0, none⟩) 1 1 [h] rfl (by decide) (rows_one hn2 hm2 H2))
  have HLE := hid (show longB [h] = false → n2 ≤ 100 from fun e => by
    have := List.any_eq_false.1 e h (by simp)
    rw [hn2] at this
    simpa using this)
  have HRR := hid (fun (X : World) (hX : Below w.heap.size w X) => H.below hX)
  have HII := hid (fun (X : World) (hX : Below w.heap.size w X) => H2.below hX)
  have HLK := hid (fun (X : World) (hX : Below w.heap.size w X) => lkernel_c X a n cap M hn hm (H.below hX))
  have HRK := hid (fun (X : World) (hX : Below w.heap.size w X) => r3Kernel_c X a n cap M hn hm (H.below hX))
  have HK1 := hid (fun (X : World) (hX : Below w.heap.size w X) => isKernel_c X a a2 n cap n2 cap2 M h hn hn2 hm hm2 (H.below hX) (H2.below hX))
  have HK2 := hid (fun (X : World) (hX : Below w.heap.size w X) => r3IsKernel_c X a a2 n cap n2 cap2 M h hn hn2 hm hm2 (H.below hX) (H2.below hX))
  have HP1 := hid (fun (X : World) (hX : Below w.heap.size w X) => primitiveB_c X a2 n2 cap2 h hn2 hm2 (H2.below hX))
  have HP2 := hid (fun (X : World) (hX : Below w.heap.size w X) (h100 : n2 ≤ 100) => r3PrimitiveB_c X a2 n2 cap2 h hn2 (by omega) (H2.below hX))
  have HRF := hid (fun (X : World) (hX : Below w.heap.size w X) => rank_c X a n cap M hn hm (H.below hX))
  have HKV := hid (fun (X : World) (hX : Below w.heap.size w X) (b : Option Addr) (k c : Nat) (v : List Int) (hk : v.length = k) (hkm : k ≤ maxLen) (hv : IntsAt X b v) => isKernel_c X a b n cap k c M v hn hk hm hkm (H.below hX) hv)
  have hb1 : Below w.heap.size w (w.alloc (.cells #[.slice a2 n2 cap2] 31)) := (Below.refl _ _).alloc (Nat.le_refl _) _
  have HB1 := hid hb1
  obtain ⟨B1, hB1⟩ : ∃ B, B = isKerB M h := ⟨_, rfl⟩
  obtain ⟨B2, hB2⟩ : ∃ B, B = primB h := ⟨_, rfl⟩
  obtain ⟨B0, hB0⟩ : ∃ B, B = longB [h] := ⟨_, rfl⟩
  rw [← hB1] at HK1 HK2
  rw [← hB2] at HP1 HP2
  rw [← hB0] at HLG HLE
  clear hB1 hB2 hB0 hb1
  cases hok : okM M
  · rw [hok] at HLK HRK
    clear hn hn2 H H2 hok HRF HKV
    go_enter Try.func4, Try.ntmps4
    go_wp2_with (go_at_call 23; refine HSM.out.mono ?_; rintro e w1 ⟨⟨sb, rfl⟩, rfl⟩; refine Stop.of ?_)
    refine Stop.go ?_
    cases sb
    · go_wp2_with (go_at_call 14; refine (HAW.out _).mono ?_; rintro e w2 ⟨rfl, hb2⟩)
      go_ret
      exact ⟨rfl, hb2⟩
    · go_wp2_with (go_at_call 24; refine HLG.out.mono ?_; rintro e w2 ⟨rfl, hw2⟩; refine Stop.of ?_)
      refine Stop.go ?_
      rw [hw2] at HB1
      clear hw2 HLG HSM
      cases B0
      · have h100 := HLE.out rfl
        have HP2' := hid (fun (X : World) (hX : Below w.heap.size w X) => HP2.out X hX h100)
        go_wp2_with (go_at_call 25; refine (HLK.out _ HB1.out).mono ?_; rintro e w3 ⟨v3, base3, hbs3, hb3, ⟨_, rfl⟩ | ⟨hx, _⟩⟩; rotate_left; cases hx; refine Stop.of ?_)
        refine Stop.go ?_
        have HB3 := hid (chain HB1.out hb3)
        clear HB1 HLK hb3 hbs3
        go_wp2_with (go_at_call 26; refine (HRK.out _ HB3.out).mono ?_; rintro e w4 ⟨v4, base4, hbs4, hb4, ⟨_, rfl⟩ | ⟨hx, _⟩⟩; rotate_left; cases hx; refine Stop.of ?_)
        refine Stop.go ?_
        have HB4 := hid (chain HB3.out hb4)
        clear HB3 HRK hb4 hbs4
        have HSL := hid (sameLists_c w4 none none 0 0 0 0 [] [] rfl rfl (by decide) (by decide) (fun j hj => by simp at hj) (fun j hj => by simp at hj))
        have hdd : decide (([] : Mask) = []) = true := by decide
        rw [hdd] at HSL
        clear hdd
        go_wp2_with (go_at_call 21; refine HSL.out.mono ?_; rintro e w5 ⟨rfl, k5, rfl⟩; refine Stop.of ?_)
        refine Stop.go ?_
        have HB5 := hid (below_drewN HB4.out k5)
        clear HB4 HSL
        generalize w4.drewN k5 = w5 at HB5 ⊢
        go_wp2_with (go_at_call 27; refine (HK1.out _ HB5.out).mono ?_; rintro e w6 ⟨rfl, hb6⟩; refine Stop.of ?_)
        refine Stop.go ?_
        have HB6 := hid (chain HB5.out hb6)
        clear HB5 hb6
        go_wp2_with (go_at_call 28; refine (HK2.out _ HB6.out).mono ?_; rintro e w7 ⟨rfl, hb7⟩; refine Stop.of ?_)
        refine Stop.go ?_
        have HB7 := hid (chain HB6.out hb7)
        have hbb1 : (B1 != B1) = false := by cases B1 <;> rfl
        have hbb2 : (B2 != B2) = false := by cases B2 <;> rfl
        clear HB6 hb7
        go_wp2_with (go_at_call 29; refine (HP1.out _ HB7.out).mono ?_; rintro e w8 ⟨rfl, hb8⟩; refine Stop.of ?_)
        refine Stop.go ?_
        have HB8 := hid (chain HB7.out hb8)
        clear HB7 hb8
        go_wp2_with (go_at_call 30; refine (HP2'.out _ HB8.out).mono ?_; rintro e w9 ⟨rfl, hb9⟩; refine Stop.of ?_)
        refine Stop.go ?_
        have HB9 := hid (chain HB8.out hb9)
        clear HB8 hb9
        go_wp2_with (go_at_call 14; refine (HAW.out _).mono ?_; rintro e w10 ⟨rfl, hb10⟩)
        go_ret
        exact ⟨rfl, chain HB9.out hb10⟩
      · go_wp2_with (go_at_call 14; refine (HAW.out _).mono ?_; rintro e w3 ⟨rfl, hb3⟩)
        go_ret
        exact ⟨rfl, chain HB1.out hb3⟩
  · rw [hok] at HLK HRK HRF
    obtain ⟨hM, h1, h6, hc1, hc10⟩ := okM_ok hok
    obtain ⟨b, off, ra, rc, rfl, hb, hc⟩ := rows_head H (by omega)
    have HKI := hid (fun (v : List Int) (hv : v ∈ kerSP M (allI (colsM M))) => ker_isKer hok hv)
    have hrn := rank_kers hok
    obtain ⟨K, hK⟩ : ∃ K, K = kerSP M (allI (colsM M)) := ⟨_, rfl⟩
    rw [← hK] at HLK HRK HKI hrn
    obtain ⟨W, hW⟩ : ∃ W, W = colsM M := ⟨_, rfl⟩
    rw [← hW] at hc1 hc10 hc HRF HKI hrn
    obtain ⟨rk, hrk⟩ : ∃ rk, rk = rankF M W := ⟨_, rfl⟩
    rw [← hrk] at HRF hrn
    obtain ⟨kl, hkl⟩ : ∃ kl, kl = K.length := ⟨_, rfl⟩
    rw [← hkl] at hrn
    have HKL := hid hkl
    have HCC := hid (fun (X : World) (hX : Below w.heap.size w X) => show X.cell? ⟨b, off, none⟩ = some (.slice ra W rc) from (hX.cell (p := ⟨b, off, none⟩) hb).trans hc)
    have hn0 : (0 : Int) < (n : Int) := by omega
    have hsum : (rk : Int) + (kl : Int) = (W : Int) := by omega
    have hkl10 : kl ≤ 10 := by omega
    have hrk10 : rk ≤ 10 := by omega
    have hws : IntKind.i64.wrap ((rk : Int) + (kl : Int)) = (W : Int) := by rw [hsum]; exact IntWalk.i64_in _ (by omega)
    clear hn hn2 H H2 hok hM hc hb hK hW hrk hkl hrn
    go_enter Try.func4, Try.ntmps4
    go_wp2_with (go_at_call 23; refine HSM.out.mono ?_; rintro e w1 ⟨⟨sb, rfl⟩, rfl⟩; refine Stop.of ?_)
    refine Stop.go ?_
    cases sb
    · go_wp2_with (go_at_call 14; refine (HAW.out _).mono ?_; rintro e w2 ⟨rfl, hb2⟩)
      go_ret
      exact ⟨rfl, hb2⟩
    · go_wp2_with (go_at_call 24; refine HLG.out.mono ?_; rintro e w2 ⟨rfl, hw2⟩; refine Stop.of ?_)
      refine Stop.go ?_
      rw [hw2] at HB1
      clear hw2 HLG HSM
      cases B0
      · have h100 := HLE.out rfl
        have HP2' := hid (fun (X : World) (hX : Below w.heap.size w X) => HP2.out X hX h100)
        go_wp2_with (go_at_call 25; refine (HLK.out _ HB1.out).mono ?_; rintro e w3 ⟨v3, base3, hbs3, hb3, ⟨hx, _⟩ | ⟨_, rfl, hO3⟩⟩; cases hx; refine Stop.of ?_)
        refine Stop.go ?_
        obtain ⟨va3, vc3, rfl, hR3⟩ := hO3.rows (fun r hr => by rw [(HKI.out r hr).2]; unfold maxLen; omega)
        rw [← HKL.out]
        have HR3 := hid hR3
        have HB3 := hid (chain HB1.out hb3)
        clear HB1 HLK hb3 hbs3 hR3 hO3
        go_wp2_with (go_at_call 26; refine (HRK.out _ HB3.out).mono ?_; rintro e w4 ⟨v4, base4, hbs4, hb4, ⟨hx, _⟩ | ⟨_, rfl, hT4⟩⟩; cases hx; refine Stop.of ?_)
        refine Stop.go ?_
        obtain ⟨va4, vc4, rfl⟩ : ∃ a4 c4, v4 = .slice a4 kl c4 := by
          obtain ⟨_, ho1, _⟩ := hT4
          obtain ⟨a', c', e⟩ := ownsRow_slice ho1
          exact ⟨a', c', by rw [e, HKL.out]⟩
        have hR4 := hT4.rows HKL.out.symm (fun r hr => by rw [(HKI.out r hr).2]; unfold maxLen; omega)
        have HB4 := hid (chain HB3.out hb4)
        have HR34 := hid (HR3.out.below hb4)
        have HSL := hid (sameLists_c w4 va3 va4 kl vc3 kl vc4 K K HKL.out.symm HKL.out.symm (by unfold maxLen; omega) (by unfold maxLen; omega) HR34.out hR4)
        have hdd : decide (K = K) = true := by simp
        rw [hdd] at HSL
        clear hdd HB3 HRK hb4 hbs4 hR4 hT4 HR3
        go_wp2_with (go_at_call 21; refine HSL.out.mono ?_; rintro e w5 ⟨rfl, k5, rfl⟩; refine Stop.of ?_)
        refine Stop.go ?_
        have HB5 := hid (below_drewN HB4.out k5)
        have HR5 := hid (HR34.out.below (below_drewN (Below.refl _ w4) k5))
        clear HB4 HSL HR34
        generalize w4.drewN k5 = w5 at HB5 HR5 ⊢
        go_wp2_with (go_at_call 27; refine (HK1.out _ HB5.out).mono ?_; rintro e w6 ⟨rfl, hb6⟩; refine Stop.of ?_)
        refine Stop.go ?_
        have HB6 := hid (chain HB5.out hb6)
        have HR6 := hid (HR5.out.below hb6)
        clear HB5 hb6 HR5
        go_wp2_with (go_at_call 28; refine (HK2.out _ HB6.out).mono ?_; rintro e w7 ⟨rfl, hb7⟩; refine Stop.of ?_)
        refine Stop.go ?_
        have HB7 := hid (chain HB6.out hb7)
        have HR7 := hid (HR6.out.below hb7)
        have hbb1 : (B1 != B1) = false := by cases B1 <;> rfl
        have hbb2 : (B2 != B2) = false := by cases B2 <;> rfl
        clear HB6 hb7 HR6
        go_wp2_with (go_at_call 29; refine (HP1.out _ HB7.out).mono ?_; rintro e w8 ⟨rfl, hb8⟩; refine Stop.of ?_)
        refine Stop.go ?_
        have HB8 := hid (chain HB7.out hb8)
        have HR8 := hid (HR7.out.below hb8)
        clear HB7 hb8 HR7
        go_wp2_with (go_at_call 30; refine (HP2'.out _ HB8.out).mono ?_; rintro e w9 ⟨rfl, hb9⟩; refine Stop.of ?_)
        refine Stop.go ?_
        have HB9 := hid (chain HB8.out hb9)
        have HR9 := hid (HR8.out.below hb9)
        clear HB8 hb9 HR8
        go_wp2_with (go_at_call 31; refine (HRF.out _ HB9.out).mono ?_; rintro e w10 ⟨hb10, ⟨hx, _⟩ | ⟨_, rfl⟩⟩; cases hx; refine Stop.of ?_)
        refine Stop.go ?_
        have HBA := hid (chain HB9.out hb10)
        have HRA := hid (HR9.out.below hb10)
        clear HB9 hb10 HR9 hbb1 hbb2
        go_wp2
        go_loopw [67] (fun i wr => ∃ k : Nat, k ≤ kl ∧ i = .int .i64 k ∧ Below w10.heap.size w10 wr) (fun i _ => kl - (intOf i).toNat)
        case atStart => exact ⟨0, Nat.zero_le _, rfl, Below.refl _ _⟩
        case round =>
          obtain ⟨k, hk, rfl, hbk⟩ := hrel
          have HBR := hid (chain HBA.out hbk)
          by_cases hlt : k < kl
          · have hkK : k < K.length := by rw [← HKL.out]; exact hlt
            obtain ⟨b5, off5, ra5, rn5, rc5, rfl, hbs5, hq5, hrn5, hrm5, hri5⟩ := (HRA.out.below hbk) k hkK
            have HV := hid (HKV.out wr HBR.out ra5 rn5 rc5 K[k] hrn5 hrm5 hri5)
            rw [(HKI.out K[k] (List.getElem_mem _)).1] at HV
            have HBK := hid hbk
            clear hrn5 hrm5 hri5 hkK hbk
            go_wp2_with (go_at_call 27; refine HV.out.mono ?_; rintro e w11 ⟨rfl, hb11⟩; refine Stop.of ?_)
            refine Stop.go ?_
            have hbn := chain HBK.out hb11
            clear hb11
            go_wp2
            exact ⟨⟨k + 1, by omega, by go_num, hbn⟩, by simp [intOf]; omega⟩
          · obtain rfl : kl = k := by omega
            have hcc := HCC.out wr HBR.out
            clear hbk
            go_wp2_with (go_at_call 14; refine (HAW.out _).mono ?_; rintro e w12 ⟨rfl, hb12⟩)
            go_ret
            exact ⟨rfl, chain HBR.out hb12⟩
      · go_wp2_with (go_at_call 14; refine (HAW.out _).mono ?_; rintro e w3 ⟨rfl, hb3⟩)
        go_ret
        exact ⟨rfl, chain HB1.out hb3⟩
end Go.Proofs.Ytfipebkhomppmaa

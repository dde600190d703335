/- Walks: Compare of the reference, by continued fractions. -/
import Derived.Test.YtfipebkhomppmaaWideB
namespace Go.Proofs.Ytfipebkhomppmaa
open Go.RowKit
set_option linter.unusedVariables false

theorem cmpI_sub {V U V' U' : Int} (h : V - U = V' - U') : cmpI V U = cmpI V' U' := by
  unfold cmpI
  by_cases h1 : V < U
  · rw [if_pos h1, if_pos (show V' < U' by omega)]
  · rw [if_neg h1, if_neg (show ¬ V' < U' by omega)]
    by_cases h2 : V = U
    · rw [if_pos h2, if_pos (show V' = U' by omega)]
    · rw [if_neg h2, if_neg (show ¬ V' = U' by omega)]
theorem cmp_lt {an A bn B : Int} (hA : 1 ≤ A) (hB : 1 ≤ B) (h : an / A < bn / B) : an * B < bn * A := by
  have e0 : an < (an / A + 1) * A := Int.lt_ediv_add_one_mul_self an (by omega)
  have e1 : (an / A + 1) * A ≤ bn / B * A := Int.mul_le_mul_of_nonneg_right (by omega) (by omega)
  have e2 : an * B < bn / B * A * B := Int.mul_lt_mul_of_pos_right (by omega) (by omega)
  have e3 : bn / B * B * A ≤ bn * A := Int.mul_le_mul_of_nonneg_right (Int.ediv_mul_le bn (by omega)) (by omega)
  have e4 : bn / B * A * B = bn / B * B * A := by grind
  omega
theorem dF_pos (d : Int) : 1 ≤ dF d := by unfold dF; split <;> omega
theorem cmpR_lt {an ad bn bd : Int} (h : an / dF ad < bn / dF bd) : cmpR an ad bn bd = -1 := by
  unfold cmpR cmpI
  rw [if_pos (cmp_lt (dF_pos ad) (dF_pos bd) h)]
theorem cmpR_gt {an ad bn bd : Int} (h : bn / dF bd < an / dF ad) : cmpR an ad bn bd = 1 := by
  have := cmp_lt (dF_pos bd) (dF_pos ad) h
  unfold cmpR cmpI
  rw [if_neg (by omega), if_neg (by omega)]
theorem cmpR_eq {an ad bn bd : Int} (h : an / dF ad = bn / dF bd) : cmpR an ad bn bd = cmpI (an % dF ad * dF bd) (bn % dF bd * dF ad) := by
  unfold cmpR
  refine cmpI_sub ?_
  have e1 := Int.mul_ediv_add_emod an (dF ad)
  have e2 := Int.mul_ediv_add_emod bn (dF bd)
  rw [← h] at e2
  generalize an / dF ad = p at e1 e2
  generalize an % dF ad = x at e1 ⊢
  generalize bn % dF bd = y at e2 ⊢
  generalize dF ad = A at e1 e2 ⊢
  generalize dF bd = B at e1 e2 ⊢
  subst e1
  subst e2
  grind
theorem cmpR_rec {an ad bn bd : Int} (h : an / dF ad = bn / dF bd) (hx : an % dF ad ≠ 0) (hy : bn % dF bd ≠ 0) : cmpR an ad bn bd = cmpR (dF bd) (bn % dF bd) (dF ad) (an % dF ad) := by
  rw [cmpR_eq h]
  have h1 := Int.emod_nonneg an (show dF ad ≠ 0 by have := dF_pos ad; omega)
  have h2 := Int.emod_nonneg bn (show dF bd ≠ 0 by have := dF_pos bd; omega)
  unfold cmpR
  rw [show dF (an % dF ad) = an % dF ad by unfold dF; rw [if_neg]; unfold dF at hx h1; omega, show dF (bn % dF bd) = bn % dF bd by unfold dF; rw [if_neg]; unfold dF at hy h2; omega, Int.mul_comm (dF bd), Int.mul_comm (dF ad)]

set_option maxRecDepth 100000 in
set_option maxHeartbeats 2000000 in
theorem rcompare_c : ∀ (s : Nat) (w : World) (an ad bn bd : Int), F64 an → F64 ad → F64 bn → F64 bd → (dF ad + dF bd).toNat ≤ s →
    Calls Try.prog 36 #[.agg #[.int .i64 an, .int .i64 ad], .agg #[.int .i64 bn, .int .i64 bd]] w fun e w' => e = .returned (.int .i64 (cmpR an ad bn bd)) ∧ Below w.heap.size w w' := by
  intro s
  induction s with
  | zero =>
    intro w an ad bn bd h1 h2 h3 h4 hs
    have hA1 := dF_pos ad
    have hB1 := dF_pos bd
    omega
  | succ s ih =>
    intro w an ad bn bd h1 h2 h3 h4 hs
    have hA1 := dF_pos ad
    have hB1 := dF_pos bd
    have hAd : dF ad = if ad < 1 then 1 else ad := rfl
    have hBd : dF bd = if bd < 1 then 1 else bd := rfl
    have fA : 1 ≤ dF ad ∧ dF ad ≤ 9223372036854775807 := by unfold dF; unfold F64 at h2; split <;> omega
    have fB : 1 ≤ dF bd ∧ dF bd ≤ 9223372036854775807 := by unfold dF; unfold F64 at h4; split <;> omega
    have HD1 := hid (fun X => down_c X an (dF ad) h1 fA)
    have HD2 := hid (fun X => down_c X bn (dF bd) h3 fB)
    have kx0 := Int.emod_nonneg an (show dF ad ≠ 0 by omega)
    have ky0 := Int.emod_nonneg bn (show dF bd ≠ 0 by omega)
    have kx1 := Int.emod_lt_of_pos an (show 0 < dF ad by omega)
    have ky1 := Int.emod_lt_of_pos bn (show 0 < dF bd by omega)
    have HLT := hid (fun h => cmpR_lt (an := an) (ad := ad) (bn := bn) (bd := bd) h)
    have HGT := hid (fun h => cmpR_gt (an := an) (ad := ad) (bn := bn) (bd := bd) h)
    have HEQ := hid (fun h => cmpR_eq (an := an) (ad := ad) (bn := bn) (bd := bd) h)
    have HRE := hid (fun h hx hy => cmpR_rec (an := an) (ad := ad) (bn := bn) (bd := bd) h hx hy)
    obtain ⟨C, hC⟩ : ∃ C, C = cmpR an ad bn bd := ⟨_, rfl⟩
    rw [← hC] at HLT HGT HEQ HRE ⊢
    clear hC
    have HMA := hid (show (if ad < 1 then (1 : Int) else ad) = dF ad from rfl)
    have HMB := hid (show (if bd < 1 then (1 : Int) else bd) = dF bd from rfl)
    have HBL := hid (show Below w.heap.size w ((w.alloc (.cells #[.int .i64 an, .int .i64 ad] 46)).alloc (.cells #[.int .i64 bn, .int .i64 bd] 46)) from ((Below.refl _ _).alloc (Nat.le_refl _) _).alloc (by simp) _)
    clear HMA HMB
    by_cases c1 : ad < 1 <;> by_cases c2 : bd < 1
    · have eA : dF ad = 1 := by unfold dF; rw [if_pos c1]
      have eB : dF bd = 1 := by unfold dF; rw [if_pos c2]
      rw [eA] at HD1 HLT HGT HEQ HRE kx0 kx1 fA hs
      rw [eB] at HD2 HLT HGT HEQ HRE ky0 ky1 fB hs
      obtain ⟨p, hp⟩ : ∃ p, p = an / 1 := ⟨_, rfl⟩
      obtain ⟨q, hq⟩ : ∃ p, p = bn / 1 := ⟨_, rfl⟩
      obtain ⟨x, hx⟩ : ∃ p, p = an % 1 := ⟨_, rfl⟩
      obtain ⟨y, hy⟩ : ∃ p, p = bn % 1 := ⟨_, rfl⟩
      rw [← hp, ← hx] at HD1
      rw [← hq, ← hy] at HD2
      rw [← hp, ← hq] at HLT HGT HEQ HRE
      rw [← hx, ← hy] at HEQ HRE
      rw [← hx] at kx0 kx1
      rw [← hy] at ky0 ky1
      have HIH := hid (fun (X : World) (hx0 : x ≠ 0) (hy0 : y ≠ 0) => ih X 1 y 1 x (by unfold F64; omega) (by unfold F64; omega) (by unfold F64; omega) (by unfold F64; omega) (by unfold dF; rw [if_neg (by omega), if_neg (by omega)]; omega))
      have hm : (p < q ∧ C = -1) ∨ (q < p ∧ C = 1) ∨ (p = q ∧ C = cmpI (x * 1) (y * 1) ∧ (x ≠ 0 → y ≠ 0 → C = cmpR 1 y 1 x)) := by
        rcases Int.lt_trichotomy p q with h | h | h
        · exact .inl ⟨h, HLT.out h⟩
        · exact .inr (.inr ⟨h, HEQ.out h, HRE.out h⟩)
        · exact .inr (.inl ⟨h, HGT.out h⟩)
      have hc0 : x = 0 → y = 0 → cmpI (x * 1) (y * 1) = 0 := fun e1 e2 => by subst e1; subst e2; unfold cmpI; simp
      have hc1 : x = 0 → y ≠ 0 → cmpI (x * 1) (y * 1) = -1 := fun e1 e2 => by
        subst e1
        have : 0 < y * 1 := Int.mul_pos (by omega) (by omega)
        unfold cmpI; rw [if_pos (by omega)]
      have hc2 : x ≠ 0 → y = 0 → cmpI (x * 1) (y * 1) = 1 := fun e1 e2 => by
        subst e2
        have : 0 < x * 1 := Int.mul_pos (by omega) (by omega)
        unfold cmpI; rw [if_neg (by omega), if_neg (by omega)]
      have HM := hid hm
      have HC0 := hid hc0
      have HC1 := hid hc1
      have HC2 := hid hc2
      clear eA eB hp hq hx hy hAd hBd hm hc0 hc1 hc2 HLT HGT HEQ HRE ih
      go_enter Try.func36, Try.ntmps36
      go_wp2_with (go_at_call 86; refine (HD1.out _).mono ?_; rintro e w1 ⟨rfl, k1, rfl⟩; refine Stop.of ?_)
      refine Stop.go ?_
      go_wp2_with (go_at_call 86; refine (HD2.out _).mono ?_; rintro e w2 ⟨rfl, k2, rfl⟩; refine Stop.of ?_)
      refine Stop.go ?_
      clear HD1 HD2
      rcases HM.out with ⟨hl, rfl⟩ | ⟨hl, rfl⟩ | ⟨rfl, hC, hR⟩
      · have hpb : (p != q) = true := by simp; omega
        clear HM
        go_wp2
        go_ret
        exact ⟨rfl, below_drewN HBL.out _⟩
      · have hpb : (p != q) = true := by simp; omega
        have hnl : ¬ p < q := by omega
        clear HM
        go_wp2
        go_ret
        exact ⟨rfl, below_drewN HBL.out _⟩
      · have hpb : (p != p) = false := by simp
        by_cases hx0 : x = 0
        · by_cases hy0 : y = 0
          · obtain rfl : C = 0 := hC.trans (HC0.out hx0 hy0)
            subst hx0
            subst hy0
            clear HM HC0 HC1 HC2 HIH hR hC
            go_wp2
            go_ret
            exact ⟨rfl, below_drewN HBL.out _⟩
          · obtain rfl : C = -1 := hC.trans (HC1.out hx0 hy0)
            have hyb : (y == 0) = false := by simpa using hy0
            subst hx0
            clear HM HC0 HC1 HC2 HIH hR hC
            go_wp2
            go_ret
            exact ⟨rfl, below_drewN HBL.out _⟩
        · exfalso; omega
    · have eA : dF ad = 1 := by unfold dF; rw [if_pos c1]
      have eB : dF bd = bd := by unfold dF; rw [if_neg c2]
      rw [eA] at HD1 HLT HGT HEQ HRE kx0 kx1 fA hs
      rw [eB] at HD2 HLT HGT HEQ HRE ky0 ky1 fB hs
      obtain ⟨p, hp⟩ : ∃ p, p = an / 1 := ⟨_, rfl⟩
      obtain ⟨q, hq⟩ : ∃ p, p = bn / bd := ⟨_, rfl⟩
      obtain ⟨x, hx⟩ : ∃ p, p = an % 1 := ⟨_, rfl⟩
      obtain ⟨y, hy⟩ : ∃ p, p = bn % bd := ⟨_, rfl⟩
      rw [← hp, ← hx] at HD1
      rw [← hq, ← hy] at HD2
      rw [← hp, ← hq] at HLT HGT HEQ HRE
      rw [← hx, ← hy] at HEQ HRE
      rw [← hx] at kx0 kx1
      rw [← hy] at ky0 ky1
      have HIH := hid (fun (X : World) (hx0 : x ≠ 0) (hy0 : y ≠ 0) => ih X bd y 1 x (by unfold F64; omega) (by unfold F64; omega) (by unfold F64; omega) (by unfold F64; omega) (by unfold dF; rw [if_neg (by omega), if_neg (by omega)]; omega))
      have hm : (p < q ∧ C = -1) ∨ (q < p ∧ C = 1) ∨ (p = q ∧ C = cmpI (x * bd) (y * 1) ∧ (x ≠ 0 → y ≠ 0 → C = cmpR bd y 1 x)) := by
        rcases Int.lt_trichotomy p q with h | h | h
        · exact .inl ⟨h, HLT.out h⟩
        · exact .inr (.inr ⟨h, HEQ.out h, HRE.out h⟩)
        · exact .inr (.inl ⟨h, HGT.out h⟩)
      have hc0 : x = 0 → y = 0 → cmpI (x * bd) (y * 1) = 0 := fun e1 e2 => by subst e1; subst e2; unfold cmpI; simp
      have hc1 : x = 0 → y ≠ 0 → cmpI (x * bd) (y * 1) = -1 := fun e1 e2 => by
        subst e1
        have : 0 < y * 1 := Int.mul_pos (by omega) (by omega)
        unfold cmpI; rw [if_pos (by omega)]
      have hc2 : x ≠ 0 → y = 0 → cmpI (x * bd) (y * 1) = 1 := fun e1 e2 => by
        subst e2
        have : 0 < x * bd := Int.mul_pos (by omega) (by omega)
        unfold cmpI; rw [if_neg (by omega), if_neg (by omega)]
      have HM := hid hm
      have HC0 := hid hc0
      have HC1 := hid hc1
      have HC2 := hid hc2
      clear eA eB hp hq hx hy hAd hBd hm hc0 hc1 hc2 HLT HGT HEQ HRE ih
      go_enter Try.func36, Try.ntmps36
      go_wp2_with (go_at_call 86; refine (HD1.out _).mono ?_; rintro e w1 ⟨rfl, k1, rfl⟩; refine Stop.of ?_)
      refine Stop.go ?_
      go_wp2_with (go_at_call 86; refine (HD2.out _).mono ?_; rintro e w2 ⟨rfl, k2, rfl⟩; refine Stop.of ?_)
      refine Stop.go ?_
      clear HD1 HD2
      rcases HM.out with ⟨hl, rfl⟩ | ⟨hl, rfl⟩ | ⟨rfl, hC, hR⟩
      · have hpb : (p != q) = true := by simp; omega
        clear HM
        go_wp2
        go_ret
        exact ⟨rfl, below_drewN HBL.out _⟩
      · have hpb : (p != q) = true := by simp; omega
        have hnl : ¬ p < q := by omega
        clear HM
        go_wp2
        go_ret
        exact ⟨rfl, below_drewN HBL.out _⟩
      · have hpb : (p != p) = false := by simp
        by_cases hx0 : x = 0
        · by_cases hy0 : y = 0
          · obtain rfl : C = 0 := hC.trans (HC0.out hx0 hy0)
            subst hx0
            subst hy0
            clear HM HC0 HC1 HC2 HIH hR hC
            go_wp2
            go_ret
            exact ⟨rfl, below_drewN HBL.out _⟩
          · obtain rfl : C = -1 := hC.trans (HC1.out hx0 hy0)
            have hyb : (y == 0) = false := by simpa using hy0
            subst hx0
            clear HM HC0 HC1 HC2 HIH hR hC
            go_wp2
            go_ret
            exact ⟨rfl, below_drewN HBL.out _⟩
        · exfalso; omega
    · have eA : dF ad = ad := by unfold dF; rw [if_neg c1]
      have eB : dF bd = 1 := by unfold dF; rw [if_pos c2]
      rw [eA] at HD1 HLT HGT HEQ HRE kx0 kx1 fA hs
      rw [eB] at HD2 HLT HGT HEQ HRE ky0 ky1 fB hs
      obtain ⟨p, hp⟩ : ∃ p, p = an / ad := ⟨_, rfl⟩
      obtain ⟨q, hq⟩ : ∃ p, p = bn / 1 := ⟨_, rfl⟩
      obtain ⟨x, hx⟩ : ∃ p, p = an % ad := ⟨_, rfl⟩
      obtain ⟨y, hy⟩ : ∃ p, p = bn % 1 := ⟨_, rfl⟩
      rw [← hp, ← hx] at HD1
      rw [← hq, ← hy] at HD2
      rw [← hp, ← hq] at HLT HGT HEQ HRE
      rw [← hx, ← hy] at HEQ HRE
      rw [← hx] at kx0 kx1
      rw [← hy] at ky0 ky1
      have HIH := hid (fun (X : World) (hx0 : x ≠ 0) (hy0 : y ≠ 0) => ih X 1 y ad x (by unfold F64; omega) (by unfold F64; omega) (by unfold F64; omega) (by unfold F64; omega) (by unfold dF; rw [if_neg (by omega), if_neg (by omega)]; omega))
      have hm : (p < q ∧ C = -1) ∨ (q < p ∧ C = 1) ∨ (p = q ∧ C = cmpI (x * 1) (y * ad) ∧ (x ≠ 0 → y ≠ 0 → C = cmpR 1 y ad x)) := by
        rcases Int.lt_trichotomy p q with h | h | h
        · exact .inl ⟨h, HLT.out h⟩
        · exact .inr (.inr ⟨h, HEQ.out h, HRE.out h⟩)
        · exact .inr (.inl ⟨h, HGT.out h⟩)
      have hc0 : x = 0 → y = 0 → cmpI (x * 1) (y * ad) = 0 := fun e1 e2 => by subst e1; subst e2; unfold cmpI; simp
      have hc1 : x = 0 → y ≠ 0 → cmpI (x * 1) (y * ad) = -1 := fun e1 e2 => by
        subst e1
        have : 0 < y * ad := Int.mul_pos (by omega) (by omega)
        unfold cmpI; rw [if_pos (by omega)]
      have hc2 : x ≠ 0 → y = 0 → cmpI (x * 1) (y * ad) = 1 := fun e1 e2 => by
        subst e2
        have : 0 < x * 1 := Int.mul_pos (by omega) (by omega)
        unfold cmpI; rw [if_neg (by omega), if_neg (by omega)]
      have HM := hid hm
      have HC0 := hid hc0
      have HC1 := hid hc1
      have HC2 := hid hc2
      clear eA eB hp hq hx hy hAd hBd hm hc0 hc1 hc2 HLT HGT HEQ HRE ih
      go_enter Try.func36, Try.ntmps36
      go_wp2_with (go_at_call 86; refine (HD1.out _).mono ?_; rintro e w1 ⟨rfl, k1, rfl⟩; refine Stop.of ?_)
      refine Stop.go ?_
      go_wp2_with (go_at_call 86; refine (HD2.out _).mono ?_; rintro e w2 ⟨rfl, k2, rfl⟩; refine Stop.of ?_)
      refine Stop.go ?_
      clear HD1 HD2
      rcases HM.out with ⟨hl, rfl⟩ | ⟨hl, rfl⟩ | ⟨rfl, hC, hR⟩
      · have hpb : (p != q) = true := by simp; omega
        clear HM
        go_wp2
        go_ret
        exact ⟨rfl, below_drewN HBL.out _⟩
      · have hpb : (p != q) = true := by simp; omega
        have hnl : ¬ p < q := by omega
        clear HM
        go_wp2
        go_ret
        exact ⟨rfl, below_drewN HBL.out _⟩
      · have hpb : (p != p) = false := by simp
        by_cases hx0 : x = 0
        · by_cases hy0 : y = 0
          · obtain rfl : C = 0 := hC.trans (HC0.out hx0 hy0)
            subst hx0
            subst hy0
            clear HM HC0 HC1 HC2 HIH hR hC
            go_wp2
            go_ret
            exact ⟨rfl, below_drewN HBL.out _⟩
          · obtain rfl : C = -1 := hC.trans (HC1.out hx0 hy0)
            have hyb : (y == 0) = false := by simpa using hy0
            subst hx0
            clear HM HC0 HC1 HC2 HIH hR hC
            go_wp2
            go_ret
            exact ⟨rfl, below_drewN HBL.out _⟩
        · have hxb : (x == 0) = false := by simpa using hx0
          by_cases hy0 : y = 0
          · obtain rfl : C = 1 := hC.trans (HC2.out hx0 hy0)
            subst hy0
            clear HM HC0 HC1 HC2 HIH hR hC
            go_wp2
            go_ret
            exact ⟨rfl, below_drewN HBL.out _⟩
          · exfalso; omega
    · have eA : dF ad = ad := by unfold dF; rw [if_neg c1]
      have eB : dF bd = bd := by unfold dF; rw [if_neg c2]
      rw [eA] at HD1 HLT HGT HEQ HRE kx0 kx1 fA hs
      rw [eB] at HD2 HLT HGT HEQ HRE ky0 ky1 fB hs
      obtain ⟨p, hp⟩ : ∃ p, p = an / ad := ⟨_, rfl⟩
      obtain ⟨q, hq⟩ : ∃ p, p = bn / bd := ⟨_, rfl⟩
      obtain ⟨x, hx⟩ : ∃ p, p = an % ad := ⟨_, rfl⟩
      obtain ⟨y, hy⟩ : ∃ p, p = bn % bd := ⟨_, rfl⟩
      rw [← hp, ← hx] at HD1
      rw [← hq, ← hy] at HD2
      rw [← hp, ← hq] at HLT HGT HEQ HRE
      rw [← hx, ← hy] at HEQ HRE
      rw [← hx] at kx0 kx1
      rw [← hy] at ky0 ky1
      have HIH := hid (fun (X : World) (hx0 : x ≠ 0) (hy0 : y ≠ 0) => ih X bd y ad x (by unfold F64; omega) (by unfold F64; omega) (by unfold F64; omega) (by unfold F64; omega) (by unfold dF; rw [if_neg (by omega), if_neg (by omega)]; omega))
      have hm : (p < q ∧ C = -1) ∨ (q < p ∧ C = 1) ∨ (p = q ∧ C = cmpI (x * bd) (y * ad) ∧ (x ≠ 0 → y ≠ 0 → C = cmpR bd y ad x)) := by
        rcases Int.lt_trichotomy p q with h | h | h
        · exact .inl ⟨h, HLT.out h⟩
        · exact .inr (.inr ⟨h, HEQ.out h, HRE.out h⟩)
        · exact .inr (.inl ⟨h, HGT.out h⟩)
      have hc0 : x = 0 → y = 0 → cmpI (x * bd) (y * ad) = 0 := fun e1 e2 => by subst e1; subst e2; unfold cmpI; simp
      have hc1 : x = 0 → y ≠ 0 → cmpI (x * bd) (y * ad) = -1 := fun e1 e2 => by
        subst e1
        have : 0 < y * ad := Int.mul_pos (by omega) (by omega)
        unfold cmpI; rw [if_pos (by omega)]
      have hc2 : x ≠ 0 → y = 0 → cmpI (x * bd) (y * ad) = 1 := fun e1 e2 => by
        subst e2
        have : 0 < x * bd := Int.mul_pos (by omega) (by omega)
        unfold cmpI; rw [if_neg (by omega), if_neg (by omega)]
      have HM := hid hm
      have HC0 := hid hc0
      have HC1 := hid hc1
      have HC2 := hid hc2
      clear eA eB hp hq hx hy hAd hBd hm hc0 hc1 hc2 HLT HGT HEQ HRE ih
      go_enter Try.func36, Try.ntmps36
      go_wp2_with (go_at_call 86; refine (HD1.out _).mono ?_; rintro e w1 ⟨rfl, k1, rfl⟩; refine Stop.of ?_)
      refine Stop.go ?_
      go_wp2_with (go_at_call 86; refine (HD2.out _).mono ?_; rintro e w2 ⟨rfl, k2, rfl⟩; refine Stop.of ?_)
      refine Stop.go ?_
      clear HD1 HD2
      rcases HM.out with ⟨hl, rfl⟩ | ⟨hl, rfl⟩ | ⟨rfl, hC, hR⟩
      · have hpb : (p != q) = true := by simp; omega
        clear HM
        go_wp2
        go_ret
        exact ⟨rfl, below_drewN HBL.out _⟩
      · have hpb : (p != q) = true := by simp; omega
        have hnl : ¬ p < q := by omega
        clear HM
        go_wp2
        go_ret
        exact ⟨rfl, below_drewN HBL.out _⟩
      · have hpb : (p != p) = false := by simp
        by_cases hx0 : x = 0
        · by_cases hy0 : y = 0
          · obtain rfl : C = 0 := hC.trans (HC0.out hx0 hy0)
            subst hx0
            subst hy0
            clear HM HC0 HC1 HC2 HIH hR hC
            go_wp2
            go_ret
            exact ⟨rfl, below_drewN HBL.out _⟩
          · obtain rfl : C = -1 := hC.trans (HC1.out hx0 hy0)
            have hyb : (y == 0) = false := by simpa using hy0
            subst hx0
            clear HM HC0 HC1 HC2 HIH hR hC
            go_wp2
            go_ret
            exact ⟨rfl, below_drewN HBL.out _⟩
        · have hxb : (x == 0) = false := by simpa using hx0
          by_cases hy0 : y = 0
          · obtain rfl : C = 1 := hC.trans (HC2.out hx0 hy0)
            subst hy0
            clear HM HC0 HC1 HC2 HIH hR hC
            go_wp2
            go_ret
            exact ⟨rfl, below_drewN HBL.out _⟩
          · have hyb : (y == 0) = false := by simpa using hy0
            have HI2 := hid (fun X => HIH.out X hx0 hy0)
            rw [← hR hx0 hy0] at HI2
            clear HM HC0 HC1 HC2 HIH hR hC
            go_wp2_with (go_at_call 36; refine (HI2.out _).mono ?_; rintro e w3 ⟨rfl, hb3⟩)
            go_ret
            exact ⟨rfl, chain (below_drewN HBL.out _) hb3⟩
end Go.Proofs.Ytfipebkhomppmaa

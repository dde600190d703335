/- Walks and plain laws for DualLeastRow, part 15. -/
import Derived.ChangeOld
import Derived.Deep.Slices
import Derived.Lib.SmallJoins
import Derived.Test.YtlffndehhhpgjaaGreatChecked
import Derived.Test.YtlffndehhhpgjaaGreatRows
import Derived.JoinedOf
import Derived.ProofKit
import Derived.Test.YtlffndehhhpgjaaGreatPkDualLeastRow14
namespace Go.Proofs.YtlffndehhhpgjaaGreat
set_option linter.unusedVariables false
set_option linter.unusedSimpArgs false
set_option maxRecDepth 100000
set_option maxHeartbeats 4000000
section
open Go.RowKit
theorem cmpI_sub {V U V' U' : Int} (h : V - U = V' - U') : cmpI V U = cmpI V' U' := by
 unfold cmpI
 by_cases h1 : V < U
 ·rw [if_pos h1, if_pos (show V' < U' by omega)]
 ·rw [if_neg h1, if_neg (show ¬ V' < U' by omega)]
  by_cases h2 : V = U
  ·rw [if_pos h2, if_pos (show V' = U' by omega)]
  ·rw [if_neg h2, if_neg (show ¬ V' = U' by omega)]
theorem cmp_lt {an A bn B : Int} (hA : 1 <= A) (hB : 1 <= B) (h : an / A < bn / B) : an * B < bn * A := by
 have e0 : an < (an / A + 1) * A := Int.lt_ediv_add_one_mul_self an (by omega)
 have e1 : (an / A + 1) * A <= bn / B * A := Int.mul_le_mul_of_nonneg_right (by omega) (by omega)
 have e2 : an * B < bn / B * A * B := Int.mul_lt_mul_of_pos_right (by omega) (by omega)
 have e3 : bn / B * B * A <= bn * A := Int.mul_le_mul_of_nonneg_right (Int.ediv_mul_le bn (by omega)) (by omega)
 have e4 : bn / B * A * B = bn / B * B * A := by grind
 omega
theorem zHQ (d : Int) : 1 <= dF d := by unfold dF; split <;> omega
theorem cmpR_lt {an ad bn bd : Int} (h : an / dF ad < bn / dF bd) : cmpR an ad bn bd = -1 := by
 unfold cmpR cmpI
 rw [if_pos (cmp_lt (zHQ ad) (zHQ bd) h)]
theorem cmpR_gt {an ad bn bd : Int} (h : bn / dF bd < an / dF ad) : cmpR an ad bn bd = 1 := by
 have := cmp_lt (zHQ bd) (zHQ ad) h
 unfold cmpR cmpI
 rw [if_neg (by omega), if_neg (by omega)]
theorem cmpR_eq {an ad bn bd : Int} (h : an / dF ad = bn / dF bd) : cmpR an ad bn bd = cmpI (an % dF ad * dF bd) (bn % dF bd * dF ad) := by
 unfold cmpR
 refine cmpI_sub ?_
 have e1 := Int.mul_ediv_add_emod an (dF ad)
 have e2 := Int.mul_ediv_add_emod bn (dF bd)
 rw [<- h] at e2
 generalize an / dF ad = p at e1 e2
 generalize an % dF ad = x at e1 ⊢
 generalize bn % dF bd = y at e2 ⊢
 generalize dF ad = A at e1 e2 ⊢
 generalize dF bd = B at e1 e2 ⊢
 subst e1
 subst e2
 grind
theorem cmpR_rec {an ad bn bd : Int} (h : an / dF ad = bn / dF bd) (hx : an % dF ad ≠ 0) (hy : bn % dF bd ≠ 0) : cmpR an ad bn bd = cmpR (dF bd) (bn % dF bd) (dF ad) (an % dF ad) := by
 rw [cmpR_eq h]
 have h1 := Int.emod_nonneg an (show dF ad ≠ 0 by have := zHQ ad; omega)
 have h2 := Int.emod_nonneg bn (show dF bd ≠ 0 by have := zHQ bd; omega)
 unfold cmpR
 rw [show dF (an % dF ad) = an % dF ad by unfold dF; rw [if_neg]; unfold dF at hx h1; omega, show dF (bn % dF bd) = bn % dF bd by unfold dF; rw [if_neg]; unfold dF at hy h2; omega, Int.mul_comm (dF bd), Int.mul_comm (dF ad)]
theorem rcompare_c : ∀ (s : Nat) (w : World) (an ad bn bd : Int), F64 an -> F64 ad -> F64 bn -> F64 bd -> (dF ad + dF bd).toNat <= s ->
 Calls Tryz.prog 31 #[.agg #[.int .i64 an, .int .i64 ad], .agg #[.int .i64 bn, .int .i64 bd]] w fun e w' => e = .returned (.int .i64 (cmpR an ad bn bd)) ∧ Below w.heap.size w w' := by
 intro s
 induction s with
 | zero =>
   intro w an ad bn bd h1 h2 h3 h4 hs
   have hA1 := zHQ ad
   have hB1 := zHQ bd
   omega
 | succ s ih =>
   intro w an ad bn bd h1 h2 h3 h4 hs
   have hA1 := zHQ ad
   have hB1 := zHQ bd
   have hAd : dF ad = if ad < 1 then 1 else ad := rfl
   have hBd : dF bd = if bd < 1 then 1 else bd := rfl
   have fA : 1 <= dF ad ∧ dF ad <= 9223372036854775807 := by unfold dF; unfold F64 at h2; split <;> omega
   have fB : 1 <= dF bd ∧ dF bd <= 9223372036854775807 := by unfold dF; unfold F64 at h4; split <;> omega
   have HD1 := hid (fun X => down_c X an (dF ad) h1 fA)
   have HD2 := hid (fun X => down_c X bn (dF bd) h3 fB)
   have kx0 := Int.emod_nonneg an (show dF ad ≠ 0 by omega)
   have ky0 := Int.emod_nonneg bn (show dF bd ≠ 0 by omega)
   have kx1 := Int.emod_lt_of_pos an (show 0 < dF ad by omega)
   have ky1 := Int.emod_lt_of_pos bn (show 0 < dF bd by omega)
   have HLT := hid (fun h => cmpR_lt (an := an) (ad := ad) (bn := bn) (bd := bd) h)
   have HGT := hid (fun h => cmpR_gt (an := an) (ad := ad) (bn := bn) (bd := bd) h)
   have HEQ := hid (fun h => cmpR_eq (an := an) (ad := ad) (bn := bn) (bd := bd) h)
   have HRE := hid (fun h hx hy => cmpR_rec (an := an) (ad := ad) (bn := bn) (bd := bd) h hx hy)
   obtain ⟨C, hC⟩ := exq (cmpR an ad bn bd)
   rw [<- hC] at HLT HGT HEQ HRE ⊢
   clear hC
   have HMA := hid (show (if ad < 1 then (1 : Int) else ad) = dF ad from rfl)
   have HMB := hid (show (if bd < 1 then (1 : Int) else bd) = dF bd from rfl)
   have HBL := hid (show Below w.heap.size w ((w.alloc (.cells #[.int .i64 an, .int .i64 ad] 29)).alloc (.cells #[.int .i64 bn, .int .i64 bd] 29)) from ((Below.refl _ _).alloc (Nat.le_refl _) _).alloc (by simp) _)
   clear HMA HMB
   by_cases c1 : ad < 1 <;> by_cases c2 : bd < 1
   ·have eA : dF ad = 1 := by unfold dF; rw [if_pos c1]
    have eB : dF bd = 1 := by unfold dF; rw [if_pos c2]
    rw [eA] at HD1 HLT HGT HEQ HRE kx0 kx1 fA hs
    rw [eB] at HD2 HLT HGT HEQ HRE ky0 ky1 fB hs
    obtain ⟨p, hp⟩ := exq (an / 1)
    obtain ⟨q, hq⟩ := exq (bn / 1)
    obtain ⟨x, hx⟩ := exq (an % 1)
    obtain ⟨y, hy⟩ := exq (bn % 1)
    rw [<- hp, <- hx] at HD1
    rw [<- hq, <- hy] at HD2
    rw [<- hp, <- hq] at HLT HGT HEQ HRE
    rw [<- hx, <- hy] at HEQ HRE
    rw [<- hx] at kx0 kx1
    rw [<- hy] at ky0 ky1
    have HIH := hid (fun (X : World) (hx0 : x ≠ 0) (hy0 : y ≠ 0) => ih X 1 y 1 x (by unfold F64; omega) (by unfold F64; omega) (by unfold F64; omega) (by unfold F64; omega) (by unfold dF; rw [if_neg (by omega), if_neg (by omega)]; omega))
    have hm : (p < q ∧ C = -1) ∨ (q < p ∧ C = 1) ∨ (p = q ∧ C = cmpI (x * 1) (y * 1) ∧ (x ≠ 0 -> y ≠ 0 -> C = cmpR 1 y 1 x)) := by
     rcases Int.lt_trichotomy p q with h | h | h
     ·exact .inl ⟨h, HLT.out h⟩
     ·exact .inr (.inr ⟨h, HEQ.out h, HRE.out h⟩)
     ·exact .inr (.inl ⟨h, HGT.out h⟩)
    have hc0 : x = 0 -> y = 0 -> cmpI (x * 1) (y * 1) = 0 := fun e1 e2 => by subst e1; subst e2; unfold cmpI; simp
    have hc1 : x = 0 -> y ≠ 0 -> cmpI (x * 1) (y * 1) = -1 := fun e1 e2 => by
     subst e1
     have : 0 < y * 1 := Int.mul_pos (by omega) (by omega)
     unfold cmpI; rw [if_pos (by omega)]
    have hc2 : x ≠ 0 -> y = 0 -> cmpI (x * 1) (y * 1) = 1 := fun e1 e2 => by
     subst e2
     have : 0 < x * 1 := Int.mul_pos (by omega) (by omega)
     unfold cmpI; rw [if_neg (by omega), if_neg (by omega)]
    have HM := hid hm
    have HC0 := hid hc0
    have HC1 := hid hc1
    have HC2 := hid hc2
    clear eA eB hp hq hx hy hAd hBd hm hc0 hc1 hc2 HLT HGT HEQ HRE ih
    go_enter Tryz.func31, Tryz.ntmps31
    go_wp2_with (go_at_call 92; refine (HD1.out _).mono ?_; rintro e w1 ⟨rfl, k1, rfl⟩; refine Stop.of ?_)
    refine Stop.go ?_
    go_wp2_with (go_at_call 92; refine (HD2.out _).mono ?_; rintro e w2 ⟨rfl, k2, rfl⟩; refine Stop.of ?_)
    refine Stop.go ?_
    clear HD1 HD2
    rcases HM.out with ⟨hl, rfl⟩ | ⟨hl, rfl⟩ | ⟨rfl, hC, hR⟩
    ·have hpb : (p != q) = true := by simp; omega
     clear HM
     go_wp2
     go_ret
     exact ⟨rfl, zAG HBL.out _⟩
    ·have hpb : (p != q) = true := by simp; omega
     have hnl : ¬ p < q := by omega
     clear HM
     go_wp2
     go_ret
     exact ⟨rfl, zAG HBL.out _⟩
    ·have hpb : (p != p) = false := by simp
     by_cases hx0 : x = 0
     ·by_cases hy0 : y = 0
      ·obtain rfl : C = 0 := hC.trans (HC0.out hx0 hy0)
       subst hx0
       subst hy0
       clear HM HC0 HC1 HC2 HIH hR hC
       go_wp2
       go_ret
       exact ⟨rfl, zAG HBL.out _⟩
      ·obtain rfl : C = -1 := hC.trans (HC1.out hx0 hy0)
       have hyb : (y == 0) = false := by simpa using hy0
       subst hx0
       clear HM HC0 HC1 HC2 HIH hR hC
       go_wp2
       go_ret
       exact ⟨rfl, zAG HBL.out _⟩
     ·exfalso; omega
   ·have eA : dF ad = 1 := by unfold dF; rw [if_pos c1]
    have eB : dF bd = bd := by unfold dF; rw [if_neg c2]
    rw [eA] at HD1 HLT HGT HEQ HRE kx0 kx1 fA hs
    rw [eB] at HD2 HLT HGT HEQ HRE ky0 ky1 fB hs
    obtain ⟨p, hp⟩ := exq (an / 1)
    obtain ⟨q, hq⟩ := exq (bn / bd)
    obtain ⟨x, hx⟩ := exq (an % 1)
    obtain ⟨y, hy⟩ := exq (bn % bd)
    rw [<- hp, <- hx] at HD1
    rw [<- hq, <- hy] at HD2
    rw [<- hp, <- hq] at HLT HGT HEQ HRE
    rw [<- hx, <- hy] at HEQ HRE
    rw [<- hx] at kx0 kx1
    rw [<- hy] at ky0 ky1
    have HIH := hid (fun (X : World) (hx0 : x ≠ 0) (hy0 : y ≠ 0) => ih X bd y 1 x (by unfold F64; omega) (by unfold F64; omega) (by unfold F64; omega) (by unfold F64; omega) (by unfold dF; rw [if_neg (by omega), if_neg (by omega)]; omega))
    have hm : (p < q ∧ C = -1) ∨ (q < p ∧ C = 1) ∨ (p = q ∧ C = cmpI (x * bd) (y * 1) ∧ (x ≠ 0 -> y ≠ 0 -> C = cmpR bd y 1 x)) := by
     rcases Int.lt_trichotomy p q with h | h | h
     ·exact .inl ⟨h, HLT.out h⟩
     ·exact .inr (.inr ⟨h, HEQ.out h, HRE.out h⟩)
     ·exact .inr (.inl ⟨h, HGT.out h⟩)
    have hc0 : x = 0 -> y = 0 -> cmpI (x * bd) (y * 1) = 0 := fun e1 e2 => by subst e1; subst e2; unfold cmpI; simp
    have hc1 : x = 0 -> y ≠ 0 -> cmpI (x * bd) (y * 1) = -1 := fun e1 e2 => by
     subst e1
     have : 0 < y * 1 := Int.mul_pos (by omega) (by omega)
     unfold cmpI; rw [if_pos (by omega)]
    have hc2 : x ≠ 0 -> y = 0 -> cmpI (x * bd) (y * 1) = 1 := fun e1 e2 => by
     subst e2
     have : 0 < x * bd := Int.mul_pos (by omega) (by omega)
     unfold cmpI; rw [if_neg (by omega), if_neg (by omega)]
    have HM := hid hm
    have HC0 := hid hc0
    have HC1 := hid hc1
    have HC2 := hid hc2
    clear eA eB hp hq hx hy hAd hBd hm hc0 hc1 hc2 HLT HGT HEQ HRE ih
    go_enter Tryz.func31, Tryz.ntmps31
    go_wp2_with (go_at_call 92; refine (HD1.out _).mono ?_; rintro e w1 ⟨rfl, k1, rfl⟩; refine Stop.of ?_)
    refine Stop.go ?_
    go_wp2_with (go_at_call 92; refine (HD2.out _).mono ?_; rintro e w2 ⟨rfl, k2, rfl⟩; refine Stop.of ?_)
    refine Stop.go ?_
    clear HD1 HD2
    rcases HM.out with ⟨hl, rfl⟩ | ⟨hl, rfl⟩ | ⟨rfl, hC, hR⟩
    ·have hpb : (p != q) = true := by simp; omega
     clear HM
     go_wp2
     go_ret
     exact ⟨rfl, zAG HBL.out _⟩
    ·have hpb : (p != q) = true := by simp; omega
     have hnl : ¬ p < q := by omega
     clear HM
     go_wp2
     go_ret
     exact ⟨rfl, zAG HBL.out _⟩
    ·have hpb : (p != p) = false := by simp
     by_cases hx0 : x = 0
     ·by_cases hy0 : y = 0
      ·obtain rfl : C = 0 := hC.trans (HC0.out hx0 hy0)
       subst hx0
       subst hy0
       clear HM HC0 HC1 HC2 HIH hR hC
       go_wp2
       go_ret
       exact ⟨rfl, zAG HBL.out _⟩
      ·obtain rfl : C = -1 := hC.trans (HC1.out hx0 hy0)
       have hyb : (y == 0) = false := by simpa using hy0
       subst hx0
       clear HM HC0 HC1 HC2 HIH hR hC
       go_wp2
       go_ret
       exact ⟨rfl, zAG HBL.out _⟩
     ·exfalso; omega
   ·have eA : dF ad = ad := by unfold dF; rw [if_neg c1]
    have eB : dF bd = 1 := by unfold dF; rw [if_pos c2]
    rw [eA] at HD1 HLT HGT HEQ HRE kx0 kx1 fA hs
    rw [eB] at HD2 HLT HGT HEQ HRE ky0 ky1 fB hs
    obtain ⟨p, hp⟩ := exq (an / ad)
    obtain ⟨q, hq⟩ := exq (bn / 1)
    obtain ⟨x, hx⟩ := exq (an % ad)
    obtain ⟨y, hy⟩ := exq (bn % 1)
    rw [<- hp, <- hx] at HD1
    rw [<- hq, <- hy] at HD2
    rw [<- hp, <- hq] at HLT HGT HEQ HRE
    rw [<- hx, <- hy] at HEQ HRE
    rw [<- hx] at kx0 kx1
    rw [<- hy] at ky0 ky1
    have HIH := hid (fun (X : World) (hx0 : x ≠ 0) (hy0 : y ≠ 0) => ih X 1 y ad x (by unfold F64; omega) (by unfold F64; omega) (by unfold F64; omega) (by unfold F64; omega) (by unfold dF; rw [if_neg (by omega), if_neg (by omega)]; omega))
    have hm : (p < q ∧ C = -1) ∨ (q < p ∧ C = 1) ∨ (p = q ∧ C = cmpI (x * 1) (y * ad) ∧ (x ≠ 0 -> y ≠ 0 -> C = cmpR 1 y ad x)) := by
     rcases Int.lt_trichotomy p q with h | h | h
     ·exact .inl ⟨h, HLT.out h⟩
     ·exact .inr (.inr ⟨h, HEQ.out h, HRE.out h⟩)
     ·exact .inr (.inl ⟨h, HGT.out h⟩)
    have hc0 : x = 0 -> y = 0 -> cmpI (x * 1) (y * ad) = 0 := fun e1 e2 => by subst e1; subst e2; unfold cmpI; simp
    have hc1 : x = 0 -> y ≠ 0 -> cmpI (x * 1) (y * ad) = -1 := fun e1 e2 => by
     subst e1
     have : 0 < y * ad := Int.mul_pos (by omega) (by omega)
     unfold cmpI; rw [if_pos (by omega)]
    have hc2 : x ≠ 0 -> y = 0 -> cmpI (x * 1) (y * ad) = 1 := fun e1 e2 => by
     subst e2
     have : 0 < x * 1 := Int.mul_pos (by omega) (by omega)
     unfold cmpI; rw [if_neg (by omega), if_neg (by omega)]
    have HM := hid hm
    have HC0 := hid hc0
    have HC1 := hid hc1
    have HC2 := hid hc2
    clear eA eB hp hq hx hy hAd hBd hm hc0 hc1 hc2 HLT HGT HEQ HRE ih
    go_enter Tryz.func31, Tryz.ntmps31
    go_wp2_with (go_at_call 92; refine (HD1.out _).mono ?_; rintro e w1 ⟨rfl, k1, rfl⟩; refine Stop.of ?_)
    refine Stop.go ?_
    go_wp2_with (go_at_call 92; refine (HD2.out _).mono ?_; rintro e w2 ⟨rfl, k2, rfl⟩; refine Stop.of ?_)
    refine Stop.go ?_
    clear HD1 HD2
    rcases HM.out with ⟨hl, rfl⟩ | ⟨hl, rfl⟩ | ⟨rfl, hC, hR⟩
    ·have hpb : (p != q) = true := by simp; omega
     clear HM
     go_wp2
     go_ret
     exact ⟨rfl, zAG HBL.out _⟩
    ·have hpb : (p != q) = true := by simp; omega
     have hnl : ¬ p < q := by omega
     clear HM
     go_wp2
     go_ret
     exact ⟨rfl, zAG HBL.out _⟩
    ·have hpb : (p != p) = false := by simp
     by_cases hx0 : x = 0
     ·by_cases hy0 : y = 0
      ·obtain rfl : C = 0 := hC.trans (HC0.out hx0 hy0)
       subst hx0
       subst hy0
       clear HM HC0 HC1 HC2 HIH hR hC
       go_wp2
       go_ret
       exact ⟨rfl, zAG HBL.out _⟩
      ·obtain rfl : C = -1 := hC.trans (HC1.out hx0 hy0)
       have hyb : (y == 0) = false := by simpa using hy0
       subst hx0
       clear HM HC0 HC1 HC2 HIH hR hC
       go_wp2
       go_ret
       exact ⟨rfl, zAG HBL.out _⟩
     ·have hxb : (x == 0) = false := by simpa using hx0
      by_cases hy0 : y = 0
      ·obtain rfl : C = 1 := hC.trans (HC2.out hx0 hy0)
       subst hy0
       clear HM HC0 HC1 HC2 HIH hR hC
       go_wp2
       go_ret
       exact ⟨rfl, zAG HBL.out _⟩
      ·exfalso; omega
   ·have eA : dF ad = ad := by unfold dF; rw [if_neg c1]
    have eB : dF bd = bd := by unfold dF; rw [if_neg c2]
    rw [eA] at HD1 HLT HGT HEQ HRE kx0 kx1 fA hs
    rw [eB] at HD2 HLT HGT HEQ HRE ky0 ky1 fB hs
    obtain ⟨p, hp⟩ := exq (an / ad)
    obtain ⟨q, hq⟩ := exq (bn / bd)
    obtain ⟨x, hx⟩ := exq (an % ad)
    obtain ⟨y, hy⟩ := exq (bn % bd)
    rw [<- hp, <- hx] at HD1
    rw [<- hq, <- hy] at HD2
    rw [<- hp, <- hq] at HLT HGT HEQ HRE
    rw [<- hx, <- hy] at HEQ HRE
    rw [<- hx] at kx0 kx1
    rw [<- hy] at ky0 ky1
    have HIH := hid (fun (X : World) (hx0 : x ≠ 0) (hy0 : y ≠ 0) => ih X bd y ad x (by unfold F64; omega) (by unfold F64; omega) (by unfold F64; omega) (by unfold F64; omega) (by unfold dF; rw [if_neg (by omega), if_neg (by omega)]; omega))
    have hm : (p < q ∧ C = -1) ∨ (q < p ∧ C = 1) ∨ (p = q ∧ C = cmpI (x * bd) (y * ad) ∧ (x ≠ 0 -> y ≠ 0 -> C = cmpR bd y ad x)) := by
     rcases Int.lt_trichotomy p q with h | h | h
     ·exact .inl ⟨h, HLT.out h⟩
     ·exact .inr (.inr ⟨h, HEQ.out h, HRE.out h⟩)
     ·exact .inr (.inl ⟨h, HGT.out h⟩)
    have hc0 : x = 0 -> y = 0 -> cmpI (x * bd) (y * ad) = 0 := fun e1 e2 => by subst e1; subst e2; unfold cmpI; simp
    have hc1 : x = 0 -> y ≠ 0 -> cmpI (x * bd) (y * ad) = -1 := fun e1 e2 => by
     subst e1
     have : 0 < y * ad := Int.mul_pos (by omega) (by omega)
     unfold cmpI; rw [if_pos (by omega)]
    have hc2 : x ≠ 0 -> y = 0 -> cmpI (x * bd) (y * ad) = 1 := fun e1 e2 => by
     subst e2
     have : 0 < x * bd := Int.mul_pos (by omega) (by omega)
     unfold cmpI; rw [if_neg (by omega), if_neg (by omega)]
    have HM := hid hm
    have HC0 := hid hc0
    have HC1 := hid hc1
    have HC2 := hid hc2
    clear eA eB hp hq hx hy hAd hBd hm hc0 hc1 hc2 HLT HGT HEQ HRE ih
    go_enter Tryz.func31, Tryz.ntmps31
    go_wp2_with (go_at_call 92; refine (HD1.out _).mono ?_; rintro e w1 ⟨rfl, k1, rfl⟩; refine Stop.of ?_)
    refine Stop.go ?_
    go_wp2_with (go_at_call 92; refine (HD2.out _).mono ?_; rintro e w2 ⟨rfl, k2, rfl⟩; refine Stop.of ?_)
    refine Stop.go ?_
    clear HD1 HD2
    rcases HM.out with ⟨hl, rfl⟩ | ⟨hl, rfl⟩ | ⟨rfl, hC, hR⟩
    ·have hpb : (p != q) = true := by simp; omega
     clear HM
     go_wp2
     go_ret
     exact ⟨rfl, zAG HBL.out _⟩
    ·have hpb : (p != q) = true := by simp; omega
     have hnl : ¬ p < q := by omega
     clear HM
     go_wp2
     go_ret
     exact ⟨rfl, zAG HBL.out _⟩
    ·have hpb : (p != p) = false := by simp
     by_cases hx0 : x = 0
     ·by_cases hy0 : y = 0
      ·obtain rfl : C = 0 := hC.trans (HC0.out hx0 hy0)
       subst hx0
       subst hy0
       clear HM HC0 HC1 HC2 HIH hR hC
       go_wp2
       go_ret
       exact ⟨rfl, zAG HBL.out _⟩
      ·obtain rfl : C = -1 := hC.trans (HC1.out hx0 hy0)
       have hyb : (y == 0) = false := by simpa using hy0
       subst hx0
       clear HM HC0 HC1 HC2 HIH hR hC
       go_wp2
       go_ret
       exact ⟨rfl, zAG HBL.out _⟩
     ·have hxb : (x == 0) = false := by simpa using hx0
      by_cases hy0 : y = 0
      ·obtain rfl : C = 1 := hC.trans (HC2.out hx0 hy0)
       subst hy0
       clear HM HC0 HC1 HC2 HIH hR hC
       go_wp2
       go_ret
       exact ⟨rfl, zAG HBL.out _⟩
      ·have hyb : (y == 0) = false := by simpa using hy0
       have HI2 := hid (fun X => HIH.out X hx0 hy0)
       rw [<- hR hx0 hy0] at HI2
       clear HM HC0 HC1 HC2 HIH hR hC
       go_wp2_with (go_at_call 31; refine (HI2.out _).mono ?_; rintro e w3 ⟨rfl, hb3⟩)
       go_ret
       exact ⟨rfl, zAA (zAG HBL.out _) hb3⟩
end
section
open Go.ChangeShapes Go.WideShapes Go.ChangeAt Go.RowKit Go.Deep
def zEU (n : Int) : Prop := -9223372036854775808 <= n ∧ n <= 9223372036854775807
theorem fits64 {n : Int} (h : (Lit.int .i64 n).wf = true) : zEU n := by
 simpa [zEU, Lit.wf, IntKind.min, IntKind.max, IntKind.signed, IntKind.bits] using h
theorem zJS {w : World} {a : Addr} {v : Value} (h : w.cell? a = some v) : a = ⟨a.block, a.off, none⟩ ∧ a.block < w.heap.size := by
 unfold World.cell? at h
 split at h
 ·rename_i c _ _ hb
  obtain ⟨b, o, s⟩ := a
  cases s with
  | none => exact ⟨rfl, (Array.getElem?_eq_some_iff.1 hb).1⟩
  | some s => simp at h
 ·simp at h
theorem zJD (b o : Nat) (i : Nat) : (Addr.mk b o none).add i = ⟨b, o + i, none⟩ := by
 unfold Addr.add
 split
 ·rename_i h; rw [h]; rfl
 ·rfl
section
variable {H : Type} {enc : TypeId × Value -> H} {P : Program} {w : World} {base : Nat} {held : Bool}
theorem zMB {e q : TypeId} {fuel : Nat} {a : Option Addr} {n cap : Nat} {x : DataW H × List MemPlace} (he : P.underlying e = some (.slice q)) (hq : P.underlying q = some (.int .i64)) (cq : P.cellsOf q = 1)
 (h : DataW.trod enc P w base (fun _ => true) held fuel e [.slice a n cap] = some x) : ∃ l : List Int, l.length = n ∧ n <= maxLen ∧ zAK w a l ∧ ∀ y ∈ l, zEU y := by
 rcases open_ints he hq cq h with ⟨hcs, _⟩ | ⟨x, l, c, zs, hcs, _, hl, hm, hz, _, hcell, hwz⟩
 ·simp at hcs
  obtain ⟨rfl, rfl, rfl⟩ := hcs
  exact ⟨[], rfl, by decide, fun j hj => by simp at hj, fun y hy => by simp at hy⟩
 ·simp at hcs
  obtain ⟨rfl, rfl, rfl⟩ := hcs
  simp only [if_true] at hz
  refine ⟨zs.take n, by rw [List.length_take]; omega, by omega, fun j hj => ?_, fun y hy => fits64 (hwz y (List.mem_of_mem_take hy))⟩
  rw [List.length_take] at hj
  have h0 := zJS (hcell 0 (by omega))
  simp only [Addr.add, if_true] at h0
  obtain ⟨b, o, s⟩ := x
  have hs : s = none := by have := h0.1; simp at this; exact this
  subst hs
  refine ⟨b, o, rfl, h0.2, ?_⟩
  have := hcell j (by omega)
  rw [zJD] at this
  rw [this]
  simp [List.getElem?_take, show j < n by omega, List.getD]
theorem arg_ints {r : Reach} {b0 : Nat} {e q : TypeId} {v : Value} {d : DataW H} {p : List MemPlace} (he : P.underlying e = some (.slice q)) (hq : P.underlying q = some (.int .i64)) (cq : P.cellsOf q = 1)
 (hv : Value.okWide P w r b0 e v) (h : DataW.Trod enc P w base (fun _ => true) held e v d p) : ∃ a n cap, ∃ l : List Int, v = .slice a n cap ∧ l.length = n ∧ n <= maxLen ∧ zAK w a l ∧ ∀ y ∈ l, zEU y := by
 obtain ⟨a, n, cap, rfl⟩ := okWide_slice he hv
 obtain ⟨fuel, hf⟩ := h
 obtain ⟨l, h1, h2, h3, h4⟩ := zMB he hq cq (by simpa [Value.cells] using hf)
 exact ⟨a, n, cap, l, rfl, h1, h2, h3, h4⟩
theorem arg_rows {r : Reach} {b0 : Nat} {t e q : TypeId} {v : Value} {d : DataW H} {p : List MemPlace} (ht : P.underlying t = some (.slice e)) (ce : P.cellsOf e = 1) (he : P.underlying e = some (.slice q)) (hq : P.underlying q = some (.int .i64)) (cq : P.cellsOf q = 1)
 (hv : Value.okWide P w r b0 t v) (h : DataW.Trod enc P w base (fun _ => true) held t v d p) : ∃ a n cap, ∃ l : List (List Int), v = .slice a n cap ∧ l.length = n ∧ n <= maxLen ∧ zAO w a l ∧ ∀ y ∈ l, ∀ z ∈ y, zEU z := by
 obtain ⟨a, n, cap, rfl⟩ := okWide_slice ht hv
 obtain ⟨fuel, hf⟩ := h
 rcases open_slice1 ht ce (by simpa [Value.cells] using hf) with ⟨hcs, _⟩ | ⟨x, len, c', m, nn, V, D, Pl, hcs, _, hl, hm, hmm, _, hx⟩
 ·simp at hcs
  obtain ⟨rfl, rfl, rfl⟩ := hcs
  exact ⟨none, 0, 0, [], rfl, rfl, by decide, fun j hj => by simp at hj, fun y hy => by simp at hy⟩
 simp at hcs
 obtain ⟨rfl, rfl, rfl⟩ := hcs
 simp only [if_true] at hmm
 have each : ∀ i, i < n -> ∃ y : List Int × Option Addr × Nat × Nat, w.cell? (x.add i) = some (.slice y.2.1 y.2.2.1 y.2.2.2) ∧ y.1.length = y.2.2.1 ∧ y.2.2.1 <= maxLen ∧ zAK w y.2.1 y.1 ∧ (∀ z ∈ y.1, zEU z) := by
  intro i hi
  obtain ⟨hc, t0⟩ := hx i (by omega)
  have hsl : ∃ ra rn rc, V i = .slice ra rn rc := by
   rcases open_ints he hq cq t0 with ⟨hcs, _⟩ | ⟨x, l, c, zs, hcs, _⟩
   ·simp at hcs; exact ⟨_, _, _, hcs⟩
   ·simp at hcs; exact ⟨_, _, _, hcs⟩
  obtain ⟨ra, rn, rc, hV⟩ := hsl
  rw [hV] at hc t0
  obtain ⟨l, q1, q2, q3, q4⟩ := zMB he hq cq t0
  exact ⟨(l, ra, rn, rc), hc, q1, q2, q3, q4⟩
 haveI : Inhabited (List Int × Option Addr × Nat × Nat) := ⟨([], none, 0, 0)⟩
 obtain ⟨y, hy⟩ := choose_lt each
 refine ⟨some x, n, cap, (List.range n).map fun i => (y i).1, rfl, by simp, by omega, fun j hj => ?_, fun z hz => ?_⟩
 ·have hjn : j < n := by simpa using hj
  have hp := zJS (hy 0 (by omega)).1
  simp only [Addr.add, if_true] at hp
  obtain ⟨b, o, s⟩ := x
  have hs' : s = none := by have := hp.1; simp at this; exact this
  subst hs'
  obtain ⟨r0, r3, r4, r5, r6⟩ := hy j hjn
  rw [zJD] at r0
  refine ⟨b, o, (y j).2.1, (y j).2.2.1, (y j).2.2.2, rfl, hp.2, r0, ?_, r4, ?_⟩ <;> simp only [List.getElem_map, List.getElem_range] <;> assumption
 ·obtain ⟨i, hi, rfl⟩ := List.mem_map.1 hz
  exact (hy i (List.mem_range.1 hi)).2.2.2.2
end
end
section
open Go.ChangeShapes Go.WideShapes Go.ChangeAt Go.RowKit Go.Deep
section
variable {H : Type} {enc : TypeId × Value -> H} {P : Program} {w : World} {base : Nat} {held : Bool}
theorem arg_ratios {r : Reach} {b0 : Nat} {t c : TypeId} {f0 f1 : Field} {v : Value} {d : DataW H} {p : List MemPlace} (ht : P.underlying t = some (.slice c)) (hs : P.underlying c = some (.struct #[f0, f1])) (hone : oneCellFields P #[f0, f1] = true) (hC : P.cellsOf c = 2)
 (h0 : P.underlying f0.type = some (.int .i64)) (h1 : P.underlying f1.type = some (.int .i64))
 (hv : Value.okWide P w r b0 t v) (h : DataW.Trod enc P w base (fun _ => true) held t v d p) : ∃ a n cap, ∃ l : List Rt, v = .slice a n cap ∧ l.length = n ∧ n <= maxLen ∧ zBS w a l ∧ ∀ y ∈ l, zEU y.1 ∧ zEU y.2 := by
 obtain ⟨a, n, cap, rfl⟩ := okWide_slice ht hv
 obtain ⟨fuel, hf⟩ := h
 rcases open_slice ht (by simpa [Value.cells] using hf) with ⟨hcs, _⟩ | ⟨x, len, c', m, nn, D, Pl, hcs, _, hl, hm, hmm, _, hx⟩
 ·simp at hcs
  obtain ⟨rfl, rfl, rfl⟩ := hcs
  exact ⟨none, 0, 0, [], rfl, rfl, by decide, fun j hj => by simp at hj, fun y hy => by simp at hy⟩
 simp at hcs
 obtain ⟨rfl, rfl, rfl⟩ := hcs
 simp only [if_true] at hmm
 obtain ⟨o0, k0⟩ := hone_of hone 0 f0 rfl
 obtain ⟨o1, k1⟩ := hone_of hone 1 f1 rfl
 have each : ∀ i, i < n -> ∃ y : Rt, w.cell? (x.add (i * 2)) = some (.int .i64 y.1) ∧ w.cell? ((x.add (i * 2)).add 1) = some (.int .i64 y.2) ∧ zEU y.1 ∧ zEU y.2 := by
  intro i hi
  obtain ⟨cs', hc, htr⟩ := hx i (by omega)
  rw [hC] at hc
  obtain ⟨_, hlen, hcell⟩ := World.cells?_some hc
  match cs', hlen with
  | [c0, c1], _ =>
    obtain ⟨y0, y1, n', _, _, t0, t1⟩ := trod_struct2 hs htr
    rw [o0, k0] at t0
    rw [o1, k1] at t1
    simp at t0 t1
    obtain ⟨z0, e0, _, w0⟩ := DataW.trod_int h0 t0
    obtain ⟨z1, e1, _, w1⟩ := DataW.trod_int h1 t1
    simp at e0 e1
    subst e0; subst e1
    have hc0 := hcell 0 (by omega)
    rw [show (x.add (i * 2)).add 0 = x.add (i * 2) from rfl] at hc0
    exact ⟨(z0, z1), by simpa using hc0, by simpa using hcell 1 (by omega), fits64 w0, fits64 w1⟩
 haveI : Inhabited Rt := ⟨(0, 0)⟩
 obtain ⟨y, hy⟩ := choose_lt each
 refine ⟨some x, n, cap, (List.range n).map fun i => y i, rfl, by simp, by omega, fun j hj => ?_, fun z hz => ?_⟩
 ·have hjn : j < n := by simpa using hj
  have hp := zJS (hy 0 (by omega)).1
  simp only [Addr.add, Nat.zero_mul, if_true] at hp
  obtain ⟨b, o, s⟩ := x
  have hs' : s = none := by have := hp.1; simp at this; exact this
  subst hs'
  obtain ⟨r0, r1, r2, r3⟩ := hy j hjn
  rw [zJD] at r0 r1
  rw [zJD] at r1
  refine ⟨b, o, rfl, hp.2, ?_, ?_⟩ <;> simp only [List.getElem_map, List.getElem_range] <;> assumption
 ·obtain ⟨i, hi, rfl⟩ := List.mem_map.1 hz
  obtain ⟨r0, r1, r2, r3⟩ := hy i (List.mem_range.1 hi)
  exact ⟨r2, r3⟩
end
end
section
namespace Go.Proofs.YtlffndehhhpgjaaGreat.dualLeast
open Go.RowKit
theorem closedF : joinedFacts Tryz.prog 4 Tryz.f4 Rows.dualLeastSpec Rows.dualLeastRow = true := by
 unfold joinedFacts
 simp only [Bool.and_eq_true]
 repeat' apply And.intro
 all_goals (as_aux_lemma => kernel_rfl)
end Go.Proofs.YtlffndehhhpgjaaGreat.dualLeast
end
end Go.Proofs.YtlffndehhhpgjaaGreat

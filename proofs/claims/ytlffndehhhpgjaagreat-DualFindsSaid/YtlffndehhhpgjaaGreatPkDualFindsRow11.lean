/- Walks and plain laws for DualFindsRow, part 11. -/
import Derived.Lib.AppendZeros
import Derived.Deep.CutRange
import Derived.Test.YtlffndehhhpgjaaGreatPkDualFindsRow10
namespace Go.Proofs.YtlffndehhhpgjaaGreat
set_option linter.unusedVariables false
set_option linter.unusedSimpArgs false
set_option maxRecDepth 100000
set_option maxHeartbeats 4000000
section
def SolM (M : List (List Int)) (n : Nat) (y : List Int) (l : Nat -> Int) (D : Int) : Prop := 0 < D ∧ ∀ q, q < M.length -> sm (fun i => rowv M q i * l i) n = vec y q * D
theorem min_ratio {P : Nat -> Prop} {a b : Nat -> Int} (ha : ∀ j, P j -> 0 <= a j) (hb : ∀ j, P j -> 0 < b j) : ∀ n : Nat, (∃ j, j < n ∧ P j) -> ∃ p, p < n ∧ P p ∧ ∀ j, j < n -> P j -> a p * b j <= a j * b p
 | 0, h => by obtain ⟨j, hj, _⟩ := h; omega
 | n + 1, h => by
   by_cases hn : ∃ j, j < n ∧ P j
   ·obtain ⟨p, hp, hP, hmin⟩ := min_ratio ha hb n hn
    by_cases hPn : P n ∧ a n * b p < a p * b n
    ·refine ⟨n, by omega, hPn.1, fun j hj hPj => ?_⟩
     rcases Nat.lt_or_ge j n with c | c
     ·have h1 := hmin j c hPj
      -- a n / b n < a p / b p <= a j / b j
      have hbp := hb p hP
      have hbj := hb j hPj
      have hbn := hb n hPn.1
      have h2 : a n * b j * b p <= a j * b n * b p := by
       have e1 : a n * b p * b j <= a p * b n * b j := Int.mul_le_mul_of_nonneg_right (by omega) (by omega)
       have e2 : a p * b j * b n <= a j * b p * b n := Int.mul_le_mul_of_nonneg_right h1 (by omega)
       have e3 : a n * b j * b p = a n * b p * b j := by grind
       have e4 : a p * b n * b j = a p * b j * b n := by grind
       have e5 : a j * b n * b p = a j * b p * b n := by grind
       omega
      exact Int.le_of_mul_le_mul_right h2 hbp
     ·have : j = n := by omega
      subst this; exact Int.le_refl _
    ·refine ⟨p, by omega, hP, fun j hj hPj => ?_⟩
     rcases Nat.lt_or_ge j n with c | c
     ·exact hmin j c hPj
     ·have : j = n := by omega
      subst this
      rcases Int.lt_or_le (a j * b p) (a p * b j) with h1 | h1
      ·exact absurd ⟨hPj, h1⟩ hPn
      ·exact h1
   ·obtain ⟨j, hj, hPj⟩ := h
    have : j = n := by
     rcases Nat.lt_or_ge j n with c | c
     ·exact absurd ⟨j, c, hPj⟩ hn
     ·omega
    subst this
    exact ⟨j, by omega, hPj, fun i hi hPi => by
     rcases Nat.lt_or_ge i j with c | c
     ·exact absurd ⟨i, c, hPi⟩ hn
     ·have : i = j := by omega
      subst this; exact Int.le_refl _⟩
theorem sm_nonpos {f : Nat -> Int} : ∀ n : Nat, (∀ j, j < n -> f j <= 0) -> sm f n <= 0
 | 0, _ => Int.le_refl _
 | n + 1, h => by
   have := sm_nonpos n (fun j hj => h j (by omega))
   have := h n (by omega)
   show sm f n + f n <= 0
   omega
theorem dep_circ {M : List (List Int)} {n : Nat} (hM : MaskOk M n) {S : List Int} (hS : zCK n S) (hne : zFG (zAQ M S) S.length ≠ S.length) : ∃ c, c ∈ circP M n ∧ c.length = n ∧ zEA M n (vec c) ∧ (∀ j : Nat, vec c j ≠ 0 -> (j : Int) ∈ S) ∧ ∃ j, j < n ∧ vec c j ≠ 0 := by
 have hrk := (hM.cols S).rank_ker
 have hkl : 0 < (zJA M S).length := by
  show 0 < (zMI (RP (zAQ M S) S.length) (JP (zAQ M S) S.length) S.length).length
  omega
 have hm : (zJA M S)[0] ∈ zJA M S := List.getElem_mem _
 obtain ⟨u, hu⟩ := exq ((zJA M S)[0])
 rw [<- hu] at hm
 obtain ⟨k1, k2, k3, f, hf, k4⟩ := (hM.cols S).kern hm
 have hv := (zFP (M := M) hS).2 k1
 obtain ⟨v, hve⟩ := exq (vec (zAV n S u S.length))
 have hnz : ∃ j, j < n ∧ v j ≠ 0 := by
  have hf2 := hS.2 S[f] (List.getElem_mem hf)
  refine ⟨(S[f]).toNat, by omega, ?_⟩
  rw [hve]
  exact (zGU hS k2).2 ⟨f, hf, by omega, by omega⟩
 rw [<- hve] at hv
 obtain ⟨T, c, hT, hTl, hTne, hSub, hcc⟩ := zMV hM (zBF n v).length v rfl hv hnz
 have hC := zJY hM hT hTne hcc
 obtain ⟨f1, f2, _, f4, f5⟩ := zOA hM hT hTne hcc
 refine ⟨c, (circP_iff hM).2 hC, f1, f2, fun j hj => ?_, ?_⟩
 ·have h1 := hSub _ ((zJK hM hT hcc j).1 hj)
  have h2 := (zCL.1 h1).2
  rw [hve] at h2
  obtain ⟨i, hi, e, _⟩ := (zGU hS k2).1 h2
  rw [<- e]; exact List.getElem_mem hi
 ·obtain ⟨j0, hj0, e0, _⟩ := zHQ c (by omega)
  exact ⟨j0, by omega, by omega⟩
def CostB (M : List (List Int)) (n : Nat) (l w : Nat -> Int) : Prop :=
 ∀ c, c ∈ circP M n -> ∀ e : Int, (e = 1 ∨ e = -1) -> (∀ j, j < n -> vec c j ≠ 0 -> l j ≠ 0) -> (∀ j, j < n -> l j * (e * vec c j) <= 0) -> sm (fun j => w j * (e * vec c j)) n <= 0
theorem lp_reduce {M : List (List Int)} {n : Nat} (hM : MaskOk M n) {y : List Int} (w : Nat -> Int) : ∀ (s : Nat) (l : Nat -> Int) (D : Int), (zBF n l).length = s -> SolM M n y l D -> CostB M n l w ->
 ∃ (k : Nat -> Int) (E : Int), SolM M n y k E ∧ zFG (zAQ M (zBF n k)) (zBF n k).length = (zBF n k).length ∧ (∀ j, j < n -> k j ≠ 0 -> 0 < k j * l j) ∧ sm (fun j => w j * k j) n * D <= sm (fun j => w j * l j) n * E := by
 intro s
 induction s using Nat.strongRecOn with
 | ind s ih =>
   intro l D hs hl hw
   by_cases hr : zFG (zAQ M (zBF n l)) (zBF n l).length = (zBF n l).length
   ·refine ⟨l, D, hl, hr, fun j hj h => ?_, Int.le_refl _⟩
    rcases Int.lt_or_gt_of_ne h with c | c
    ·exact Int.mul_pos_of_neg_of_neg c c
    ·exact Int.mul_pos c c
   ·obtain ⟨c, hc, hcl, hck, hcs, hcn⟩ := dep_circ hM (zEY n l) hr
    have hsub : ∀ j, j < n -> vec c j ≠ 0 -> l j ≠ 0 := fun j hj h => (zCL.1 (hcs j h)).2
    -- the direction: the cost does not grow, and some number becomes less
    have hdir : ∃ e : Int, (e = 1 ∨ e = -1) ∧ 0 <= sm (fun j => w j * (e * vec c j)) n ∧ ∃ j, j < n ∧ 0 < l j * (e * vec c j) := by
     have hneg : ∀ e : Int, sm (fun j => w j * (-e * vec c j)) n = -sm (fun j => w j * (e * vec c j)) n := fun e => by
      have := zDN (-1) (fun j => w j * (e * vec c j)) n
      rw [<- zAO (f := fun j => -1 * (w j * (e * vec c j))) (g := fun j => w j * (-e * vec c j)) (fun j _ => by grind), this]
      omega
     have hex : ∀ e : Int, (e = 1 ∨ e = -1) -> ¬ (∃ j, j < n ∧ 0 < l j * (e * vec c j)) -> ∀ j, j < n -> l j * (e * vec c j) <= 0 := fun e _ h j hj => by
      rcases Int.lt_or_le 0 (l j * (e * vec c j)) with c1 | c1
      ·exact absurd ⟨j, hj, c1⟩ h
      ·exact c1
     rcases Int.lt_trichotomy 0 (sm (fun j => w j * (1 * vec c j)) n) with c1 | c1 | c1
     ·by_cases h : ∃ j, j < n ∧ 0 < l j * (1 * vec c j)
      ·exact ⟨1, .inl rfl, by omega, h⟩
      ·have := hw c hc 1 (.inl rfl) hsub (hex 1 (.inl rfl) h)
       omega
     ·obtain ⟨j, hj, hcj⟩ := hcn
      have hlj := hsub j hj hcj
      rcases Int.lt_or_gt_of_ne (Int.mul_ne_zero hlj hcj) with c2 | c2
      ·refine ⟨-1, .inr rfl, by rw [hneg 1]; omega, j, hj, ?_⟩
       have : l j * (-1 * vec c j) = -(l j * vec c j) := by grind
       omega
      ·refine ⟨1, .inl rfl, by omega, j, hj, ?_⟩
       have : l j * (1 * vec c j) = l j * vec c j := by grind
       omega
     ·by_cases h : ∃ j, j < n ∧ 0 < l j * (-1 * vec c j)
      ·exact ⟨-1, .inr rfl, by rw [hneg 1]; omega, h⟩
      ·have := hw c hc (-1) (.inr rfl) hsub (hex (-1) (.inr rfl) h)
       rw [hneg 1] at this
       omega
    obtain ⟨e, he, hσ, hpos⟩ := hdir
    have hen : e ≠ 0 := by rcases he with h | h <;> omega
    obtain ⟨h, hh⟩ : ∃ h : Nat -> Int, h = fun j => e * vec c j := ⟨_, rfl⟩
    have hhk : ∀ q, q < M.length -> sm (fun i => rowv M q i * h i) n = 0 := fun q hq => by
     have := hck q hq
     unfold dotS at this
     rw [zAO (g := fun i => e * (rowv M q i * vec c i)) (fun i _ => by rw [hh]; grind), zDN, this]
     simp
    have hhs : ∀ j, j < n -> h j ≠ 0 -> l j ≠ 0 := fun j hj hz => hsub j hj fun hz2 => hz (by rw [hh]; simp [hz2])
    have hσ' : 0 <= sm (fun j => w j * h j) n := by rw [hh]; exact hσ
    have hpos' : ∃ j, j < n ∧ 0 < l j * h j := by rw [hh]; exact hpos
    clear hσ hpos
    -- the least ratio
    obtain ⟨p, hp, hPp, hmin⟩ := min_ratio (P := fun j => 0 < l j * h j) (a := fun j => ((l j).natAbs : Int)) (b := fun j => ((h j).natAbs : Int)) (fun j _ => by omega) (fun j hj => by
     have : h j ≠ 0 := fun hz => by rw [hz] at hj; simp at hj
     omega) n hpos'
    have hhp : h p ≠ 0 := fun hz => by rw [hz] at hPp; simp at hPp
    have hlp : l p ≠ 0 := fun hz => by rw [hz] at hPp; simp at hPp
    obtain ⟨A, hA⟩ : ∃ A : Int, A = ((h p).natAbs : Int) := ⟨_, rfl⟩
    obtain ⟨B, hB⟩ : ∃ B : Int, B = ((l p).natAbs : Int) := ⟨_, rfl⟩
    have hA0 : 0 < A := by omega
    have hB0 : 0 < B := by omega
    obtain ⟨k, hk⟩ : ∃ k : Nat -> Int, k = fun j => A * l j - B * h j := ⟨_, rfl⟩
    have hkp : k p = 0 := by
     rw [hk, hA, hB]
     show ((h p).natAbs : Int) * l p - ((l p).natAbs : Int) * h p = 0
     rcases Int.lt_or_gt_of_ne hhp with c1 | c1
     ·have c2 : l p < 0 := by
       rcases Int.lt_or_gt_of_ne hlp with c2 | c2
       ·exact c2
       ·have := Int.mul_neg_of_pos_of_neg c2 c1; omega
      have e1 : ((h p).natAbs : Int) = -h p := by omega
      have e2 : ((l p).natAbs : Int) = -l p := by omega
      rw [e1, e2]; grind
     ·have c2 : 0 < l p := by
       rcases Int.lt_or_gt_of_ne hlp with c2 | c2
       ·have := Int.mul_neg_of_neg_of_pos c2 c1; omega
       ·exact c2
      have e1 : ((h p).natAbs : Int) = h p := by omega
      have e2 : ((l p).natAbs : Int) = l p := by omega
      rw [e1, e2]; grind
    have hkl0 : ∀ j, j < n -> k j ≠ 0 -> l j ≠ 0 := fun j hj hz hz2 => by
     apply hz
     have h0 : h j = 0 := Classical.byContradiction fun h1 => hhs j hj h1 hz2
     rw [hk]; show A * l j - B * h j = 0
     rw [hz2, h0]; simp
    have hks : ∀ j, j < n -> 0 <= k j * l j := fun j hj => by
     rw [hk]
     show 0 <= (A * l j - B * h j) * l j
     have e1 : (A * l j - B * h j) * l j = A * (l j * l j) - B * (l j * h j) := by grind
     rw [e1]
     have e2 : 0 <= A * (l j * l j) := Int.mul_nonneg (by omega) (by
      rcases Int.lt_or_le (l j) 0 with c1 | c1
      ·exact Int.le_of_lt (Int.mul_pos_of_neg_of_neg c1 c1)
      ·exact Int.mul_nonneg c1 c1)
     rcases Int.lt_or_le 0 (l j * h j) with c1 | c1
     ·have h1 : ((l p).natAbs : Int) * ((h j).natAbs : Int) <= ((l j).natAbs : Int) * ((h p).natAbs : Int) := hmin j hj c1
      rw [<- hA, <- hB] at h1
      -- B * |h j| <= |l j| * A, times |l j|
      have h2 : B * ((h j).natAbs : Int) * ((l j).natAbs : Int) <= ((l j).natAbs : Int) * A * ((l j).natAbs : Int) := Int.mul_le_mul_of_nonneg_right h1 (by omega)
      have h3 : ((l j).natAbs : Int) * ((l j).natAbs : Int) = l j * l j := by rw [<- Int.natCast_mul, <- Int.natAbs_mul, Int.natAbs_of_nonneg]; exact (by
       rcases Int.lt_or_le (l j) 0 with c1 | c1
       ·exact Int.le_of_lt (Int.mul_pos_of_neg_of_neg c1 c1)
       ·exact Int.mul_nonneg c1 c1)
      have h4 : ((h j).natAbs : Int) * ((l j).natAbs : Int) = l j * h j := by rw [Int.mul_comm, <- Int.natCast_mul, <- Int.natAbs_mul, Int.natAbs_of_nonneg (by omega)]
      have h5 : B * ((h j).natAbs : Int) * ((l j).natAbs : Int) = B * (l j * h j) := by rw [Int.mul_assoc, h4]
      have h6 : ((l j).natAbs : Int) * A * ((l j).natAbs : Int) = A * (l j * l j) := by rw [<- h3]; grind
      omega
     ·have : B * (l j * h j) <= 0 := Int.mul_nonpos_of_nonneg_of_nonpos (by omega) c1
      omega
    have hsol : SolM M n y k (D * A) := by
     refine ⟨Int.mul_pos hl.1 hA0, fun q hq => ?_⟩
     have e1 := hl.2 q hq
     have e2 := hhk q hq
     rw [zAO (g := fun i => A * (rowv M q i * l i) + (-B) * (rowv M q i * h i)) (fun i _ => by rw [hk]; grind), zKI, zDN, zDN, e1, e2]
     grind
    have hlt : (zBF n k).length < s := by
     rw [<- hs]
     have hn1 : (zBF n k).Nodup := (zEY n k).1.imp (fun h => by omega)
     have hpm : (p : Int) ∈ zBF n l := zCL.2 ⟨hp, hlp⟩
     have hpn : (p : Int) ∉ zBF n k := fun hm => (zCL.1 hm).2 hkp
     have := zME (l := (p : Int) :: zBF n k) (m := zBF n l) (List.nodup_cons.2 ⟨hpn, hn1⟩) (fun x hx => by
      rcases List.mem_cons.1 hx with rfl | hx
      ·exact hpm
      ·have hb := (zEY n k).2 x hx
       obtain ⟨j, rfl⟩ : ∃ j : Nat, x = (j : Int) := ⟨x.toNat, by omega⟩
       obtain ⟨h1, h2⟩ := zCL.1 hx
       exact zCL.2 ⟨h1, hkl0 j h1 h2⟩)
     simp at this
     omega
    have hw' : CostB M n k w := fun d hd f hf hdl hdn => by
     refine hw d hd f hf (fun j hj hz => hkl0 j hj (hdl j hj hz)) (fun j hj => ?_)
     by_cases hz : vec d j = 0
     ·rw [hz]; simp
     ·have hkj := hdl j hj hz
      have h1 := hdn j hj
      have h2 := hks j hj
      have hlj := hkl0 j hj hkj
      -- k and l have one sign
      rcases Int.lt_or_gt_of_ne hkj with c1 | c1
      ·have c2 : l j < 0 := by
        rcases Int.lt_or_gt_of_ne hlj with c2 | c2
        ·exact c2
        ·have := Int.mul_neg_of_neg_of_pos c1 c2; omega
       have c3 : 0 <= f * vec d j := by
        rcases Int.lt_or_le (f * vec d j) 0 with c3 | c3
        ·have := Int.mul_pos_of_neg_of_neg c1 c3; omega
        ·exact c3
       exact Int.mul_nonpos_of_nonpos_of_nonneg (by omega) c3
      ·have c2 : 0 < l j := by
        rcases Int.lt_or_gt_of_ne hlj with c2 | c2
        ·have := Int.mul_neg_of_pos_of_neg c1 c2; omega
        ·exact c2
       have c3 : f * vec d j <= 0 := by
        rcases Int.lt_or_le 0 (f * vec d j) with c3 | c3
        ·have := Int.mul_pos c1 c3; omega
        ·exact c3
       exact Int.mul_nonpos_of_nonneg_of_nonpos (by omega) c3
    obtain ⟨z, E, hz1, hz2, hz3, hz4⟩ := ih _ hlt k (D * A) rfl hsol hw'
    refine ⟨z, E, hz1, hz2, fun j hj hzj => ?_, ?_⟩
    ·have h1 := hz3 j hj hzj
     have hkj : k j ≠ 0 := fun e0 => by rw [e0] at h1; simp at h1
     have h2 := hks j hj
     have hlj := hkl0 j hj hkj
     rcases Int.lt_or_gt_of_ne hkj with c1 | c1
     ·have c2 : l j < 0 := by
       rcases Int.lt_or_gt_of_ne hlj with c2 | c2
       ·exact c2
       ·have := Int.mul_neg_of_neg_of_pos c1 c2; omega
      have c3 : z j < 0 := by
       rcases Int.lt_or_le (z j) 0 with c3 | c3
       ·exact c3
       ·have := Int.mul_nonpos_of_nonneg_of_nonpos c3 (show k j <= 0 by omega); omega
      exact Int.mul_pos_of_neg_of_neg c3 c2
     ·have c2 : 0 < l j := by
       rcases Int.lt_or_gt_of_ne hlj with c2 | c2
       ·have := Int.mul_neg_of_pos_of_neg c1 c2; omega
       ·exact c2
      have c3 : 0 < z j := by
       rcases Int.lt_or_le 0 (z j) with c3 | c3
       ·exact c3
       ·have := Int.mul_nonpos_of_nonpos_of_nonneg c3 (show 0 <= k j by omega); omega
      exact Int.mul_pos c3 c2
    ·-- the cost
     have hcost : sm (fun j => w j * k j) n = A * sm (fun j => w j * l j) n - B * sm (fun j => w j * h j) n := by
      rw [zAO (g := fun j => A * (w j * l j) + (-B) * (w j * h j)) (fun i _ => by rw [hk]; grind), zKI, zDN, zDN]
      have : -B * sm (fun j => w j * h j) n = -(B * sm (fun j => w j * h j) n) := by grind
      omega
     have hBσ : 0 <= B * sm (fun j => w j * h j) n := Int.mul_nonneg (by omega) hσ'
     have hE := hz1.1
     have h1 : sm (fun j => w j * k j) n * E <= A * sm (fun j => w j * l j) n * E := Int.mul_le_mul_of_nonneg_right (by omega) (by omega)
     have h2 : sm (fun j => w j * z j) n * D * A <= sm (fun j => w j * l j) n * E * A := by
      have e1 : sm (fun j => w j * z j) n * D * A = sm (fun j => w j * z j) n * (D * A) := by grind
      have e2 : sm (fun j => w j * l j) n * E * A = A * sm (fun j => w j * l j) n * E := by grind
      omega
     exact Int.le_of_mul_le_mul_right h2 hA0
end
section
theorem cop_dvd {b a d : Int} (h : Int.gcd a b = 1) (h1 : b ∣ a * d) : b ∣ d := by
 have h2 : b.natAbs ∣ a.natAbs * d.natAbs := by rw [<- Int.natAbs_mul]; exact Int.natAbs_dvd_natAbs.2 h1
 have h3 : Nat.Coprime b.natAbs a.natAbs := by rw [Nat.coprime_comm]; exact h
 exact Int.natAbs_dvd_natAbs.1 (h3.dvd_of_dvd_mul_left h2)
def lowV (n d : Int) : Option Rt := if zAM (zAY n d) = true then some (zAY n d) else none
theorem zFA {a b : Int} (h : Int.gcd a b = 1) : zAY a b = (a, b) := by unfold zAY; rw [h]; simp
theorem lowV_congr {n d m e : Int} (hd : 0 < d) (he : 0 < e) (h : n * e = m * d) : lowV n d = lowV m e := by
 unfold lowV; rw [zIO hd he h]
theorem zEQ {n d : Int} (hd : 0 < d) : ∃ g a b : Int, zAY n d = (a, b) ∧ 0 < g ∧ 0 < b ∧ n = a * g ∧ d = b * g ∧ Int.gcd a b = 1 := by
 obtain ⟨c1, _, _, c4, c5⟩ := zDD (a := n) hd
 obtain ⟨⟨a, b⟩, hab⟩ : ∃ p, p = zAY n d := ⟨_, rfl⟩
 rw [<- hab] at c1 c4 c5
 simp only [] at c1 c4 c5
 -- b divides n * b, so b | a * d, so b | d
 have h1 : b ∣ a * d := ⟨n, by rw [c5]; exact Int.mul_comm _ _⟩
 have h2 : b ∣ d := cop_dvd c4 h1
 obtain ⟨g, hg⟩ := h2
 have hg0 : 0 < g := by
  rcases Int.lt_or_le 0 g with h | h
  ·exact h
  ·have : b * g <= 0 := Int.mul_nonpos_of_nonneg_of_nonpos (by omega) h
   omega
 refine ⟨g, a, b, hab.symm, hg0, c1, ?_, hg, c4⟩
 have : b * n = b * (a * g) := by rw [Int.mul_comm b n, <- c5, hg]; grind
 exact Int.eq_of_mul_eq_mul_left (by omega) this
theorem low_div {n d a b g : Int} (hd : 0 < d) (hg : 0 < g) (hb : 0 < b) (hn : n = a * g) (he : d = b * g) (hc : Int.gcd a b = 1) (k : Int) : n % d * k % d = 0 ↔ b ∣ k := by
 have h1 : n % d * k % d = n * k % d := by rw [Int.mul_emod, Int.emod_emod_of_dvd _ (Int.dvd_refl d), <- Int.mul_emod]
 rw [h1]
 constructor
 ·intro h
  obtain ⟨c, hc2⟩ := Int.dvd_of_emod_eq_zero h
  rw [hn, he] at hc2
  have : g * (a * k) = g * (b * c) := by grind
  have h3 := Int.eq_of_mul_eq_mul_left (by omega) this
  exact cop_dvd hc ⟨c, h3⟩
 ·rintro ⟨c, rfl⟩
  rw [hn, he]
  refine Int.emod_eq_zero_of_dvd ⟨a * c, by grind⟩
theorem low_val {n d a b g : Int} (hn0 : 0 <= n) (hd : 0 < d) (hg : 0 < g) (hn : n = a * g) (he : d = b * g) : n / d * b + n % d * b / d = a := by
 have h1 : n % d * b = d * (a - n / d * b) := by
  have h2 := Int.emod_add_mul_ediv n d  -- n % d + d * (n / d) = n
  have h3 : n % d = n - d * (n / d) := by omega
  rw [h3, Int.sub_mul, Int.mul_sub]
  have : n * b = d * a := by rw [hn, he]; grind
  rw [this]; grind
 rw [h1, Int.mul_ediv_cancel_left _ (by omega)]
 omega
theorem low_nonneg {n d a b g : Int} (hn0 : 0 <= n) (hg : 0 < g) (hn : n = a * g) : 0 <= a := by
 rcases Int.lt_or_le a 0 with h | h
 ·have := Int.mul_neg_of_neg_of_pos h hg; omega
 ·exact h
theorem low_neg {n d : Int} (hd : 0 < d) : zAY (-n) d = (-(zAY n d).1, (zAY n d).2) := by
 obtain ⟨g, a, b, e, hg, hb, hn, he, hc⟩ := zEQ (n := n) hd
 rw [e]
 have h2 : zAY (-n) d = zAY (-a) b := zIO hd hb (by rw [hn, he]; grind)
 rw [h2, zFA (by rw [Int.neg_gcd]; exact hc)]
theorem zNC {a b : Int} : zAM (-a, b) = zAM (a, b) := by
 rw [Bool.eq_iff_iff, zBG, zBG]
 simp only [Int.neg_gcd]
 constructor <;> (rintro ⟨h1, h2, h3, h4, h5⟩; exact ⟨h1, h2, by omega, by omega, h5⟩)
theorem low_big {n d : Int} (hn0 : 0 <= n) (hd : 0 < d) (h : 10000000000 < n / d) : zAM (zAY n d) = false := by
 obtain ⟨g, a, b, e, hg, hb, hn, he, hc⟩ := zEQ (n := n) hd
 rw [e]
 cases hv : zAM (a, b)
 ·rfl
 ·have h1 := (zBG.1 hv).2.2.2.1
  simp only [] at h1
  have h2 : n / d <= a := by
   have h3 : n / d * d <= n := by rw [Int.mul_comm]; exact Int.mul_ediv_self_le (by omega)
   have h4 : n / d * (b * g) <= a * g := by rw [<- he, <- hn]; exact h3
   have h5 : n / d * b * g <= a * g := by rw [Int.mul_assoc]; exact h4
   have h6 := Int.le_of_mul_le_mul_right h5 hg
   have h7 : n / d * 1 <= n / d * b := Int.mul_le_mul_of_nonneg_left (by omega) (Int.ediv_nonneg hn0 (by omega))
   omega
  omega
end
section
def nrmI (l : Nat -> Int) (n : Nat) : Int := sm (fun j => ((l j).natAbs : Int)) n
theorem nrmI_pos (l : Nat -> Int) : ∀ n, 0 <= nrmI l n
 | 0 => Int.le_refl _
 | n + 1 => by
   have := nrmI_pos l n
   show 0 <= nrmI l n + ((l n).natAbs : Int)
   omega
def zCE (x : List Rt) : Nat -> Int × Int
 | 0 => (0, 1)
 | k + 1 => ((zCE x k).1 * (zAE x k).2 + (zCE x k).2 * ((zAE x k).1.natAbs : Int), (zCE x k).2 * (zAE x k).2)
def nrmQ (x : List Rt) : Int × Int := zCE x x.length
theorem zFU {x : List Rt} (h : ∀ k, 0 < (zAE x k).2) : ∀ k, 0 < (zCE x k).2 ∧ 0 <= (zCE x k).1
 | 0 => ⟨by show (0 : Int) < 1; omega, Int.le_refl _⟩
 | k + 1 => by
   obtain ⟨h1, h2⟩ := zFU h k
   have h3 := h k
   exact ⟨Int.mul_pos h1 h3, Int.add_nonneg (Int.mul_nonneg h2 (by omega)) (Int.mul_nonneg (by omega) (by omega))⟩
theorem zGY {x : List Rt} {l : Nat -> Int} {D : Int} (hD : 0 < D) (hp : ∀ k, 0 < (zAE x k).2) : ∀ n, (∀ k, k < n -> (zAE x k).1 * D = l k * (zAE x k).2) -> (zCE x n).1 * D = (zCE x n).2 * nrmI l n
 | 0, _ => by simp [zCE, nrmI, sm]
 | n + 1, h => by
   have ih := zGY hD hp n (fun k hk => h k (by omega))
   have e := h n (by omega)
   have e2 : ((zAE x n).1.natAbs : Int) * D = ((l n).natAbs : Int) * (zAE x n).2 := by
    have h1 := congrArg Int.natAbs e
    rw [Int.natAbs_mul, Int.natAbs_mul] at h1
    have h2 := hp n
    have h3 : (((zAE x n).1.natAbs * D.natAbs : Nat) : Int) = (((l n).natAbs * (zAE x n).2.natAbs : Nat) : Int) := by rw [h1]
    rw [Int.natCast_mul, Int.natCast_mul] at h3
    have h4 : ((D.natAbs : Nat) : Int) = D := by omega
    have h5 : (((zAE x n).2.natAbs : Nat) : Int) = (zAE x n).2 := by omega
    rw [h4, h5] at h3
    exact h3
   show ((zCE x n).1 * (zAE x n).2 + (zCE x n).2 * ((zAE x n).1.natAbs : Int)) * D = (zCE x n).2 * (zAE x n).2 * (nrmI l n + ((l n).natAbs : Int))
   generalize (zCE x n).1 = a at *
   generalize (zCE x n).2 = b at *
   generalize (zAE x n).2 = c at *
   generalize ((zAE x n).1.natAbs : Int) = u at *
   generalize ((l n).natAbs : Int) = v at *
   generalize nrmI l n = N at *
   have : (a * c + b * u) * D = (a * D) * c + b * (u * D) := by grind
   rw [this, ih, e2]; grind
def sgnI (z : Int) : Int := if z < 0 then -1 else if z = 0 then 0 else 1
theorem zIM (z : Int) : sgnI z * z = (z.natAbs : Int) := by unfold sgnI; split <;> (try split) <;> omega
theorem sgnI_same {z k : Int} (h : k ≠ 0 -> 0 < k * z) : sgnI z * k = (k.natAbs : Int) := by
 by_cases hk : k = 0
 ·subst hk; simp
 ·have h1 := h hk
  unfold sgnI
  rcases Int.lt_or_gt_of_ne hk with c | c
  ·have : z < 0 := by
    rcases Int.lt_or_le z 0 with c2 | c2
    ·exact c2
    ·have := Int.mul_nonpos_of_nonpos_of_nonneg (show k <= 0 by omega) c2; omega
   rw [if_pos this]; omega
  ·have : 0 < z := by
    rcases Int.lt_or_le 0 z with c2 | c2
    ·exact c2
    ·have := Int.mul_nonpos_of_nonneg_of_nonpos (show 0 <= k by omega) c2; omega
   rw [if_neg (by omega), if_neg (by omega)]; omega
theorem sgnI_opp {z h : Int} (h1 : z * h <= 0) : sgnI z * h <= 0 := by
 unfold sgnI
 split
 ·rename_i c
  rcases Int.lt_or_le h 0 with c2 | c2
  ·have := Int.mul_pos_of_neg_of_neg c c2; omega
  ·omega
 ·split
  ·simp
  ·rename_i c c1
   rcases Int.lt_or_le 0 h with c2 | c2
   ·have := Int.mul_pos (show 0 < z by omega) c2; omega
   ·omega
theorem lp_norm {M : List (List Int)} {n : Nat} (hM : MaskOk M n) {y : List Int} {l : Nat -> Int} {D : Int} (hl : SolM M n y l D) :
 ∃ (k : Nat -> Int) (E : Int), SolM M n y k E ∧ zFG (zAQ M (zBF n k)) (zBF n k).length = (zBF n k).length ∧ (∀ j, j < n -> k j ≠ 0 -> 0 < k j * l j) ∧ nrmI k n * D <= nrmI l n * E := by
 obtain ⟨k, E, h1, h2, h3, h4⟩ := lp_reduce hM (fun j => sgnI (l j)) _ l D rfl hl (fun c hc e he hs ho => sm_nonpos n fun j hj => sgnI_opp (ho j hj))
 refine ⟨k, E, h1, h2, h3, ?_⟩
 have e1 : sm (fun j => sgnI (l j) * k j) n = nrmI k n := zAO fun j hj => sgnI_same (h3 j hj)
 have e2 : sm (fun j => sgnI (l j) * l j) n = nrmI l n := zAO fun j hj => zIM _
 rw [e1, e2] at h4
 exact h4
end
section
theorem solve_vals {R : List (List Int)} {n : Nat} (he : (zAW R n).2 = 0) : (zAW R n).1 = (List.range n).map fun k => ofF (vec ((pRed R n).1[k]?.getD []) n) (vec ((pRed R n).1[k]?.getD []) (jf (pRed R n).2 k)) := by
 unfold zAW at he ⊢
 simp only [] at he ⊢
 split at he
 ·simp at he
 ·rename_i h1
  split at he
  ·simp at he
  ·rename_i h2
   rw [if_neg h1, if_neg h2]
theorem zGW {M : List (List Int)} {n : Nat} (h : MaskOk M n) {y : List Int} (hy : y.length = M.length) (hmil : ∀ v ∈ y, -1000000 <= v ∧ v <= 1000000) (he : (zAW (zAI M y) n).2 = 0) :
 ∃ (l : Nat -> Int) (D : Int), 0 < D ∧ D <= 288 ∧ (∀ k, k < n -> (zAE (zAW (zAI M y) n).1 k).1 * D = l k * (zAE (zAW (zAI M y) n).1 k).2) ∧ (∀ k, k < n -> (l k).natAbs <= 720000000) ∧
   SolM M n y l D ∧ (∀ k, 0 < (zAE (zAW (zAI M y) n).1 k).2) ∧ zFG M n = n ∧ (∀ k, zAM (zAE (zAW (zAI M y) n).1 k) = true) := by
 obtain ⟨hr, l', D', hD', k1, k2⟩ := solve_to h hy hmil he
 have hY := h.addY hy (Y := 1000000) (by decide) (by simpa using hmil)
 have hi := zCI (zAI M y) hY.wid n (fun j hj q => zCC (by decide) (fun r hr => hY.one r hr j hj) q)
 have hpiv := zLJ h hy hY
 have hJl : (pRed (zAI M y) n).2.length = n := by rw [hpiv]; exact hr
 have hasc : (pRed (zAI M y) n).2 = List.range' 0 n := zLG hi.asc (fun x hx => by have := hi.lt x hx; omega) hJl
 have hjf : ∀ k, k < n -> jf (pRed (zAI M y) n).2 k = k := fun k hk => by
  rw [hasc]; unfold jf; rw [List.getElem?_range' hk]; simp
 have hval := solve_vals he
 have hat : ∀ k, k < n -> zAE (zAW (zAI M y) n).1 k = ofF (rowv (pRed (zAI M y) n).1 k n) (rowv (pRed (zAI M y) n).1 k k) := fun k hk => by
  rw [hval]
  unfold zAE
  rw [List.getElem?_map, List.getElem?_range hk]
  simp only [Option.map_some, Option.getD_some]
  rw [hjf k hk]; rfl
 have hout : ∀ k, n <= k -> zAE (zAW (zAI M y) n).1 k = (0, 1) := fun k hk => by
  rw [hval]; unfold zAE
  rw [List.getElem?_eq_none (by simp; exact hk)]; rfl
 have hJ1 : ∀ x ∈ (pRed (zAI M y) n).2, ∀ r, -1 <= rowv (zAI M y) r x ∧ rowv (zAI M y) r x <= 1 := fun x hx r => zCC (by decide) (fun r hr => hY.one r hr x (hi.lt x hx)) r
 have hpv := fun k (hk : k < n) => hi.piv_288 hY.le6 hJ1 (k := k) (by omega)
 obtain ⟨A, hs, hA⟩ := hi.st
 have hA1 : ∀ k, k < (pRed (zAI M y) n).2.length -> ∀ r, -1 <= A r (jf (pRed (zAI M y) n).2 k) ∧ A r (jf (pRed (zAI M y) n).2 k) <= 1 := by
  intro k hk r
  obtain ⟨q0, e⟩ := hA r
  rw [e]
  exact hJ1 _ (by unfold jf; rw [List.getElem?_eq_getElem hk]; exact List.getElem_mem hk) q0
 have hAY : ∀ r, -(1000000 : Int) <= A r n ∧ A r n <= 1000000 := fun r => by
  obtain ⟨q0, e⟩ := hA r
  rw [e]
  exact zCC (c := n) (by omega) (fun r hr => zDR (P := fun x => -(1000000 : Int) <= x ∧ x <= 1000000) (by omega) (hY.all r hr) n) q0
 have hd288 := det_288 (zCT (jf (pRed (zAI M y) n).2) A (pRed (zAI M y) n).2.length) (fun x hx r => by
  obtain ⟨k, hk, rfl⟩ := zFV.1 hx
  exact hA1 k hk r) (zCQ (pRed (zAI M y) n).2.length) (by rw [zET, zCY]) (by rw [zCY]; exact Nat.le_trans hs.le hY.le6)
 have hd0 := hs.d0
 obtain ⟨d, hd⟩ := exq (det (zCT (jf (pRed (zAI M y) n).2) A (pRed (zAI M y) n).2.length) (zCQ (pRed (zAI M y) n).2.length))
 rw [<- hd] at hd288 hd0
 -- the minors
 have hmin : ∀ k, k < n -> ∃ E : Int, E.natAbs <= 720000000 ∧ rowv (pRed (zAI M y) n).1 k k * E = d * rowv (pRed (zAI M y) n).1 k n := by
  intro k hk
  have hk' : k < (pRed (zAI M y) n).2.length := by omega
  obtain ⟨⟨s, hs2, e0⟩, e⟩ := hs.minorU hk'
  rw [<- hd] at e0
  have e1 := e n
  rw [e0, hjf k hk] at e1
  have hl := (zGE (J := jf (pRed (zAI M y) n).2) (A := A) hk').2
  have hb := det_le2 (c := fun r => A r n) hAY (zBP (jf (pRed (zAI M y) n).2) A k (pRed (zAI M y) n).2.length) (fun d hd r => by obtain ⟨k, hk, rfl⟩ := zDJ hd; exact hA1 k hk r) (zCQ (pRed (zAI M y) n).2.length) (by rw [zET]; exact hl.symm)
  rw [hl] at hb
  have hK6 : (pRed (zAI M y) n).2.length <= 6 := Nat.le_trans hs.le hY.le6
  have hfact : ∀ a : Nat, a + 1 <= 6 -> ((a + 1 : Nat) : Int) * (1000000 * (fact a : Int)) <= 720000000 := fun a ha => by
   have : a = 0 ∨ a = 1 ∨ a = 2 ∨ a = 3 ∨ a = 4 ∨ a = 5 := by omega
   rcases this with rfl | rfl | rfl | rfl | rfl | rfl <;> decide
  have hf := hfact (zBP (jf (pRed (zAI M y) n).2) A k (pRed (zAI M y) n).2.length).length (by omega)
  rw [hl] at hf
  refine ⟨s * minorU (pRed (zAI M y) n).2.length (jf (pRed (zAI M y) n).2) A k n, ?_, ?_⟩
  ·have : (s * minorU (pRed (zAI M y) n).2.length (jf (pRed (zAI M y) n).2) A k n).natAbs = (minorU (pRed (zAI M y) n).2.length (jf (pRed (zAI M y) n).2) A k n).natAbs := by
    rw [Int.natAbs_mul]
    rcases hs2 with rfl | rfl <;> simp
   rw [this]
   unfold minorU
   omega
  ·have h1 : s * s = 1 := by rcases hs2 with rfl | rfl <;> rfl
   generalize minorU (pRed (zAI M y) n).2.length (jf (pRed (zAI M y) n).2) A k n = E at *
   generalize rowv (pRed (zAI M y) n).1 k k = b at *
   generalize rowv (pRed (zAI M y) n).1 k n = a at *
   have : b * (s * E) = s * (b * E) := by grind
   rw [this, e1]
   have : s * (s * d * a) = (s * s) * (d * a) := by grind
   rw [this, h1]; omega
 -- the values over |d|
 have key : ∀ k, k < n -> ∃ E : Int, E.natAbs <= 720000000 ∧ (zAE (zAW (zAI M y) n).1 k).1 * (d.natAbs : Int) = E * (zAE (zAW (zAI M y) n).1 k).2 := by
  intro k hk
  obtain ⟨E, h1, h2⟩ := hmin k hk
  have hb := (hpv k hk).1
  rw [hjf k hk] at hb
  rw [hat k hk, zMC hb]
  obtain ⟨c1, _, _, _, c5⟩ := zDD (a := rowv (pRed (zAI M y) n).1 k n) hb
  generalize rowv (pRed (zAI M y) n).1 k k = b at *
  generalize rowv (pRed (zAI M y) n).1 k n = a at *
  generalize zAY a b = p at *
  obtain ⟨p1, p2⟩ := p
  dsimp only at *
  have e1 : b * (p1 * d) = b * (E * p2) := by
   have : b * (p1 * d) = (p1 * b) * d := by grind
   rw [this, c5]
   have : b * (E * p2) = (b * E) * p2 := by grind
   rw [this, h2]; grind
  have e2 := Int.eq_of_mul_eq_mul_left (show b ≠ 0 by omega) e1
  rcases Int.lt_or_le d 0 with c | c
  ·refine ⟨-E, by omega, ?_⟩
   have : (d.natAbs : Int) = -d := by omega
   rw [this, Int.mul_neg, e2, Int.neg_mul]
  ·refine ⟨E, h1, ?_⟩
   have : (d.natAbs : Int) = d := by omega
   rw [this, e2]
 have hpos : ∀ k, 0 < (zAE (zAW (zAI M y) n).1 k).2 := fun k => by
  rcases Nat.lt_or_ge k n with hk | hk
  ·have hb := (hpv k hk).1
   rw [hjf k hk] at hb
   rw [hat k hk, zMC hb]
   exact (zDD hb).1
  ·rw [hout k hk]; decide
 have hex : ∃ l : Nat -> Int, ∀ k, k < n -> (l k).natAbs <= 720000000 ∧ (zAE (zAW (zAI M y) n).1 k).1 * (d.natAbs : Int) = l k * (zAE (zAW (zAI M y) n).1 k).2 := by
  refine ⟨fun k => if hk : k < n then Classical.choose (key k hk) else 0, fun k hk => ?_⟩
  simp only [dif_pos hk]
  exact Classical.choose_spec (key k hk)
 obtain ⟨l, hl⟩ := hex
 refine ⟨l, (d.natAbs : Int), by omega, by omega, fun k hk => (hl k hk).2, fun k hk => (hl k hk).1, ⟨by omega, fun q hq => ?_⟩, hpos, hr, fun k => ?_⟩
 ·-- the system
  have e1 := k1 q hq
  have e2 : ∀ c, c < n -> D' * (rowv M q c * l c) = (d.natAbs : Int) * (rowv M q c * l' c) := fun c hc => by
   have h1 := (hl c hc).2
   have h2 := k2 c hc
   have hp := hpos c
   generalize zAE (zAW (zAI M y) n).1 c = p at *
   obtain ⟨p1, p2⟩ := p
   dsimp only at *
   have h3 : p2 * (l c * D') = p2 * (l' c * (d.natAbs : Int)) := by
    have : p2 * (l c * D') = (l c * p2) * D' := by grind
    rw [this, <- h1]
    have : p1 * (d.natAbs : Int) * D' = (p1 * D') * (d.natAbs : Int) := by grind
    rw [this, h2]; grind
   have h4 := Int.eq_of_mul_eq_mul_left (show p2 ≠ 0 by omega) h3
   have : D' * (rowv M q c * l c) = rowv M q c * (l c * D') := by grind
   rw [this, h4]; grind
  have e3 : D' * sm (fun i => rowv M q i * l i) n = D' * (vec y q * (d.natAbs : Int)) := by
   rw [<- zDN, zAO e2, zDN, e1]; grind
  exact Int.eq_of_mul_eq_mul_left (show D' ≠ 0 by omega) e3
 ·rcases Nat.lt_or_ge k n with hk | hk
  ·have hb := hpv k hk
   rw [hjf k hk] at hb
   rw [hat k hk, zMC hb.1]
   have b3 := sys_le hY k n
   obtain ⟨c1, c2, c3, c4, _⟩ := zDD (a := rowv (pRed (zAI M y) n).1 k n) hb.1
   rw [zBG]
   exact ⟨by omega, by omega, by omega, by omega, c4⟩
  ·rw [hout k hk]; decide
theorem nrmI_le {l : Nat -> Int} {B : Nat} : ∀ n : Nat, (∀ k, k < n -> (l k).natAbs <= B) -> nrmI l n <= ((n * B : Nat) : Int)
 | 0, _ => by simp [nrmI, sm]
 | n + 1, h => by
   have h1 := nrmI_le n (fun k hk => h k (by omega))
   have h2 := h n (by omega)
   show nrmI l n + ((l n).natAbs : Int) <= _
   rw [Nat.succ_mul]; omega
theorem solve_norm {M : List (List Int)} {n : Nat} (h : MaskOk M n) {y : List Int} (hy : y.length = M.length) (hmil : ∀ v ∈ y, -1000000 <= v ∧ v <= 1000000) (he : (zAW (zAI M y) n).2 = 0) :
 0 < (zCE (zAW (zAI M y) n).1 n).2 ∧ zAM (zAY (zCE (zAW (zAI M y) n).1 n).1 (zCE (zAW (zAI M y) n).1 n).2) = true := by
 obtain ⟨l, D, hD, hD288, h1, h2, _, hp, hr, _⟩ := zGW h hy hmil he
 obtain ⟨p1, p2⟩ := zFU hp n
 refine ⟨p1, ?_⟩
 have e := zGY hD hp n h1
 have hn6 : n <= 6 := by have := rank_le h; have := h.le6; omega
 have hl := nrmI_le n h2
 have hN := nrmI_pos l n
 have e2 : zAY (zCE (zAW (zAI M y) n).1 n).1 (zCE (zAW (zAI M y) n).1 n).2 = zAY (nrmI l n) D := zIO p1 hD (by rw [e, Int.mul_comm])
 rw [e2]
 obtain ⟨c1, c2, c3, c4, _⟩ := zDD (a := nrmI l n) hD
 have : n * 720000000 <= 6 * 720000000 := Nat.mul_le_mul_right _ hn6
 rw [zBG]
 exact ⟨by omega, by omega, by omega, by omega, c4⟩
end
section
open Go.RowKit
def fitsR (M : Mask) (y : List Int) (k : Int) : List FitT := (allF M y).filter (fun f => decide ((f.1.length : Int) <= k))
end
section
open Go.RowKit
theorem zFZ {M : Mask} {y : List Int} {f : FitT} (h : f ∈ allF M y) : zCK (zAB M) f.1 ∧ f.2.length = f.1.length ∧ f.1.length <= zAB M := by
 unfold allF at h
 obtain ⟨S, hS, e⟩ := List.mem_filterMap.1 h
 obtain ⟨h1, h2⟩ := fitF_len e
 rw [h1]
 exact ⟨(zPM hS).2, h2, (zPM hS).1⟩
end
section
theorem lvls_fits (M : Mask) (y : List Int) (n : Nat) : ∀ k, (lvls n k).filterMap (fitF M y) = zBQ M y n (k + 1)
 | 0 => by
   rw [zCO]
   show (comb n 0 0).filterMap (fitF M y) = zBQ M y n 0 ++ _
   simp [zBQ]
 | k + 1 => by
   rw [zCO, <- lvls_fits M y n k]
   show (lvls n k ++ comb n (k + 1) 0).filterMap (fitF M y) = _
   rw [List.filterMap_append]
theorem allF_to (M : Mask) (y : List Int) : allF M y = zBQ M y (zAB M) (zAB M + 1) := lvls_fits M y _ _
theorem fits_size {M : Mask} {y : List Int} {W j : Nat} {f : FitT} (h : f ∈ (comb W j 0).filterMap (fitF M y)) : f.1.length = j := by
 obtain ⟨S, hS, e⟩ := List.mem_filterMap.1 h
 rw [(fitF_len e).1]
 exact zCV _ _ _ _ hS
theorem fits_cut (M : Mask) (y : List Int) (W k : Nat) : ∀ t, (zBQ M y W t).filter (fun f => decide ((f.1.length : Int) <= (k : Int))) = zBQ M y W (min t (k + 1))
 | 0 => by simp [zBQ]
 | t + 1 => by
   rw [zCO, List.filter_append, fits_cut M y W k t]
   rcases Nat.lt_or_ge k t with h | h
   ·have h1 : ((comb W t 0).filterMap (fitF M y)).filter (fun f => decide ((f.1.length : Int) <= (k : Int))) = [] := by
     rw [List.filter_eq_nil_iff]
     intro f hf
     have := fits_size hf
     simp; omega
    rw [h1, List.append_nil, show min t (k + 1) = k + 1 by omega, show min (t + 1) (k + 1) = k + 1 by omega]
   ·have h1 : ((comb W t 0).filterMap (fitF M y)).filter (fun f => decide ((f.1.length : Int) <= (k : Int))) = (comb W t 0).filterMap (fitF M y) := by
     rw [List.filter_eq_self]
     intro f hf
     have := fits_size hf
     simp; omega
    rw [h1, show min t (k + 1) = t by omega, show min (t + 1) (k + 1) = t + 1 by omega, zCO]
theorem fit_long {M : Mask} {y S : List Int} (h : M.length < S.length) : fitF M y S = none := by
 unfold fitF
 rw [if_neg]
 rintro ⟨h0, _⟩
 unfold zBZ at h0
 split at h0
 ·rename_i hc
  obtain ⟨hM, hy, hyB, hS⟩ := zHU hc
  have hmo := (zCP hM).1
  have hY := (hmo.cols S).addY (y := y) (by rw [zBK]; exact hy) (Y := 1000000) (by decide) (fun v hv => by
   unfold milB at hyB
   have := List.all_eq_true.1 hyB v hv
   unfold inB at this
   simp at this; omega)
  have hi := zCI (zAI (zAQ M S) y) hY.wid S.length (fun j hj q => zCC (by decide) (fun r hr => hY.one r hr j hj) q)
  have hk := hi.K_le
  rw [zDV (by rw [zBK]; exact hy), zBK] at hk
  unfold zAW at h0
  simp only [] at h0
  split at h0
  ·simp at h0
  ·split at h0
   ·simp at h0
   ·omega
 ·rename_i hc; exact hc h0
theorem fits_long (M : Mask) (y : List Int) (W : Nat) : ∀ d, zBQ M y W (M.length + 1 + d) = zBQ M y W (M.length + 1)
 | 0 => rfl
 | d + 1 => by
   rw [show M.length + 1 + (d + 1) = (M.length + 1 + d) + 1 by omega, zCO, fits_long M y W d]
   have h1 : (comb W (M.length + 1 + d) 0).filterMap (fitF M y) = [] := by
    rw [List.filterMap_eq_nil_iff]
    intro S hS
    refine fit_long ?_
    rw [zCV _ _ _ _ hS]; omega
   rw [h1, List.append_nil]
theorem fits_same (M : Mask) (y : List Int) (k : Nat) : fitsR M y (k : Int) = zBE M y k := by
 unfold fitsR zBE
 rw [allF_to, fits_cut]
 rcases Nat.lt_or_ge M.length (min k (zAB M)) with h | h
 ·obtain ⟨d, hd⟩ : ∃ d, min (zAB M + 1) (k + 1) = M.length + 1 + d := ⟨min (zAB M + 1) (k + 1) - (M.length + 1), by omega⟩
  rw [hd, fits_long, show min (min k (zAB M)) M.length + 1 = M.length + 1 by omega]
 ·rw [show min (zAB M + 1) (k + 1) = min (min k (zAB M)) M.length + 1 by omega]
end
section
open Go.RowKit
theorem light_c (w : World) (a : Option Addr) (n cap : Nat) (M : Mask) (hn : M.length = n) (hm : n <= maxLen) (H : zAK w a M) :
 Calls Tryz.prog 16 #[.slice a n cap] w fun e w' => SomeB e ∧ w = w' := by
 have HN := hid hn
 have HH := hid H
 clear hn H
 unfold maxLen at hm
 go_enter Tryz.func16, Tryz.ntmps16
 go_wp2
 go_loop [3, 8] (fun s i => ∃ k : Nat, k <= n ∧ i = .int .i64 k ∧ ∃ z : Int, s = .int .i64 z) (fun _ i => n - (intOf i).toNat)
 case atStart => exact ⟨0, Nat.zero_le _, rfl, _, rfl⟩
 case round =>
  obtain ⟨k, hk, rfl, z, rfl⟩ := hrel
  by_cases hlt : k < n
  ·have hkl : k < M.length := by rw [HN.out]; exact hlt
   obtain ⟨b, off, ra, rn, rc, rfl, hbs, hq0, hrn, hrm, hri⟩ := HH.out k hkl
   clear hrn hri hkl hrm
   by_cases h7 : (7 : Int) < (rn : Int)
   ·by_cases h10 : (rn : Int) <= 10
    ·go_wp2
     go_ret
     exact ⟨⟨_, rfl⟩, rfl⟩
    ·go_wp2
     go_round
     case rel => exact ⟨k + 1, by omega, by go_num, _, rfl⟩
     case measure => simp [intOf]; omega
   ·go_wp2
    go_round
    case rel => exact ⟨k + 1, by omega, by go_num, _, rfl⟩
    case measure => simp [intOf]; omega
  ·go_wp2
   go_ret
   exact ⟨⟨_, rfl⟩, rfl⟩
end
section
open Go.RowKit
theorem named_of {W : Nat} {l : List Int} (h : zCK W l) : zDO W l = 0 := by
 have h1 : ascB l = true := by
  unfold ascB
  rw [decide_eq_true_eq]
  intro i hi
  rw [List.getElem?_eq_getElem (by omega), List.getElem?_eq_getElem (by omega)]
  exact List.pairwise_iff_getElem.1 h.1 i (i + 1) (by omega) (by omega) (by omega)
 unfold zDO
 rw [if_pos h1, if_pos]
 rw [List.all_eq_true]
 intro p hp
 have := h.2 p hp
 unfold inB; simp; omega
theorem pix_of {M : Mask} {S : List Int} (hM : okM M = true) (h : zCK (zAB M) S) : pixE M S = 0 := by unfold pixE; rw [if_pos hM, named_of h]
theorem zPJ {M : Mask} {y S : List Int} (hM : okM M = true) (hy : y.length = M.length) (hmil : milB y = true) (h : zCK (zAB M) S) : zBB M y S = 0 := by
 unfold zBB; rw [if_pos hM, if_pos hy, if_pos hmil, pix_of hM h]
end
section
theorem fits_mem {M : Mask} {y : List Int} (hM : okM M = true) (hy : y.length = M.length) (hmil : milB y = true) {f : FitT} : f ∈ zBE M y 10 ↔ ∃ S, zCK (zAB M) S ∧ fitF M y S = some f := by
 obtain ⟨hO, hm1, _, hc1, hc10⟩ := zCP hM
 have hmil' : ∀ v ∈ y, -1000000 <= v ∧ v <= 1000000 := fun v hv => by have := zGF hmil v hv; omega
 unfold zBE zBQ
 rw [List.mem_flatMap]
 constructor
 ·rintro ⟨j, _, hj⟩
  obtain ⟨S, hS, hf⟩ := List.mem_filterMap.1 hj
  exact ⟨S, comb_ok hS, hf⟩
 ·rintro ⟨S, hS, hf⟩
  obtain ⟨_, h1, _⟩ := zLE hf
  have hsv : zBZ M S y = zAW (zAI (zAQ M S) y) S.length := by unfold zBZ; rw [if_pos (zPJ hM hy hmil hS)]
  rw [hsv] at h1
  obtain ⟨hr, _⟩ := solve_to (hO.cols S) (by rw [zBK]; exact hy) hmil' h1
  have hrk := rank_le (hO.cols S)
  rw [hr, zBK] at hrk
  have hW := set_le hS
  refine ⟨S.length, List.mem_range.2 (by omega), List.mem_filterMap.2 ⟨S, zJI (zAB M) 0 S hS.1 (fun y hy => by have := hS.2 y hy; omega), hf⟩⟩
theorem sum_supp {n : Nat} {k : Nat -> Int} (r : Nat -> Int) : sm (fun i => zFT (zBF n k) r i * vec ((zBF n k).map fun j => k j.toNat) i) (zBF n k).length = sm (fun c => r c * k c) n := by
 have hS := zEY n k
 rw [<- zHR hS r _ (Nat.le_refl _)]
 unfold dotS
 refine zAO fun c hc => ?_
 rw [zHX hS (fun j hj hm => ?_) hc]
 rcases Classical.em (k j = 0) with c | c
 ·exact c
 ·exact absurd (zCL.2 ⟨hj, c⟩) hm
theorem nrm_supp {n : Nat} {k : Nat -> Int} : nrmI (vec ((zBF n k).map fun j => k j.toNat)) (zBF n k).length = nrmI k n := by
 have h := sum_supp (n := n) (k := k) (fun c => sgnI (k c))
 have e1 : sm (fun c => sgnI (k c) * k c) n = nrmI k n := zAO fun c _ => zIM _
 rw [e1] at h
 rw [<- h]
 refine zAO fun i hi => ?_
 have e2 : vec ((zBF n k).map fun j => k j.toNat) i = k ((zBF n k)[i]).toNat := by unfold vec; rw [List.getElem?_map, List.getElem?_eq_getElem hi]; rfl
 have e3 : zFT (zBF n k) (fun c => sgnI (k c)) i = sgnI (k ((zBF n k)[i]).toNat) := by unfold zFT; rw [List.getElem?_eq_getElem hi]
 rw [e2, e3, zIM]
theorem fit_of_sol {M : Mask} {y : List Int} (hM : okM M = true) (hy : y.length = M.length) (hmil : milB y = true) {k : Nat -> Int} {E : Int} (hk : SolM M (zAB M) y k E) (hr : zFG (zAQ M (zBF (zAB M) k)) (zBF (zAB M) k).length = (zBF (zAB M) k).length) :
 ∃ f, f ∈ zBE M y 10 ∧ f.1 = zBF (zAB M) k ∧ f.2.length = f.1.length ∧ (∀ i, i < f.1.length -> (zAE f.2 i).1 * E = k ((f.1[i]?.getD 0).toNat) * (zAE f.2 i).2) ∧ (∀ i, 0 < (zAE f.2 i).2) ∧ (nrmQ f.2).1 * E = (nrmQ f.2).2 * nrmI k (zAB M) ∧ 0 < (nrmQ f.2).2 := by
 obtain ⟨hO, hm1, _, hc1, hc10⟩ := zCP hM
 have hmil' : ∀ v ∈ y, -1000000 <= v ∧ v <= 1000000 := fun v hv => by have := zGF hmil v hv; omega
 have hS := zEY (zAB M) k
 have hy' : y.length = (zAQ M (zBF (zAB M) k)).length := by rw [zBK]; exact hy
 have hsys : ∀ q, q < (zAQ M (zBF (zAB M) k)).length -> sm (fun i => rowv (zAQ M (zBF (zAB M) k)) q i * vec ((zBF (zAB M) k).map fun j => k j.toNat) i) (zBF (zAB M) k).length = vec y q * E := by
  intro q hq
  rw [zBK] at hq
  rw [zHT, sum_supp, hk.2 q hq]
 obtain ⟨k1, k2, k3⟩ := solve_of (hO.cols _) hy' hmil' hr (show E ≠ 0 by have := hk.1; omega) hsys
 obtain ⟨_, _, _, _, _, _, _, hpos, _, _⟩ := zGW (hO.cols _) hy' hmil' k1
 have hsv : zBZ M (zBF (zAB M) k) y = zAW (zAI (zAQ M (zBF (zAB M) k)) y) (zBF (zAB M) k).length := by unfold zBZ; rw [if_pos (zPJ hM hy hmil hS)]
 have hvk : ∀ i (hi : i < (zBF (zAB M) k).length), vec ((zBF (zAB M) k).map fun j => k j.toNat) i = k ((zBF (zAB M) k)[i]).toNat := fun i hi => by unfold vec; rw [List.getElem?_map, List.getElem?_eq_getElem hi]; rfl
 obtain ⟨P, hP⟩ := exq (zAW (zAI (zAQ M (zBF (zAB M) k)) y) (zBF (zAB M) k).length)
 rw [<- hP] at k1 k2 k3 hpos hsv
 have hfit : fitF M y (zBF (zAB M) k) = some (zBF (zAB M) k, P.1) := by
  unfold fitF
  rw [hsv, if_pos]
  refine ⟨k1, List.all_eq_true.2 fun r hr => ?_⟩
  obtain ⟨i, hi, rfl⟩ := List.mem_iff_getElem.1 hr
  have hi' : i < (zBF (zAB M) k).length := by omega
  obtain ⟨c1, c2, _⟩ := k3 i hi'
  have e1 : zAE P.1 i = P.1[i] := by unfold zAE; rw [List.getElem?_eq_getElem hi]; rfl
  rw [e1, hvk i hi'] at c1
  rw [e1] at c2
  have h0 : k ((zBF (zAB M) k)[i]).toNat ≠ 0 := by
   have hm := List.getElem_mem hi'
   have hb := hS.get hi'
   rw [show (zBF (zAB M) k)[i] = ((((zBF (zAB M) k)[i]).toNat : Nat) : Int) by omega] at hm
   exact (zCL.1 hm).2
  rw [decide_eq_true_eq]
  intro e
  rw [e, Int.zero_mul] at c1
  exact Int.mul_ne_zero h0 (by omega) c1.symm
 have hvals : ∀ i, i < (zBF (zAB M) k).length -> (zAE P.1 i).1 * E = vec ((zBF (zAB M) k).map fun j => k j.toNat) i * (zAE P.1 i).2 := fun i hi => (k3 i hi).1
 have hn := zGY hk.1 hpos (zBF (zAB M) k).length hvals
 rw [nrm_supp] at hn
 have hq : nrmQ P.1 = zCE P.1 (zBF (zAB M) k).length := by unfold nrmQ; rw [k2]
 refine ⟨(zBF (zAB M) k, P.1), (fits_mem hM hy hmil).2 ⟨_, hS, hfit⟩, rfl, k2, fun i hi => ?_, hpos, by rw [hq]; exact hn, by rw [hq]; exact (zFU hpos _).1⟩
 have hi' : i < (zBF (zAB M) k).length := hi
 have := hvals i hi'
 rw [hvk i hi'] at this
 show (zAE P.1 i).1 * E = k (((zBF (zAB M) k)[i]?.getD 0).toNat) * (zAE P.1 i).2
 rw [List.getElem?_eq_getElem hi']
 exact this
theorem zNT {M : Mask} {y : List Int} (hM : okM M = true) (hy : y.length = M.length) (hmil : milB y = true) {l : Nat -> Int} {D : Int} (hl : SolM M (zAB M) y l D) :
 ∃ f, f ∈ zBE M y 10 ∧ 0 < (nrmQ f.2).2 ∧ (nrmQ f.2).1 * D <= nrmI l (zAB M) * (nrmQ f.2).2 := by
 obtain ⟨hO, _⟩ := zCP hM
 obtain ⟨k, E, h1, h2, _, h4⟩ := lp_norm hO hl
 obtain ⟨f, f1, _, _, _, _, f2, f3⟩ := fit_of_sol hM hy hmil h1 h2
 refine ⟨f, f1, f3, ?_⟩
 have hE := h1.1
 -- (n * D) * E <= (N * d) * E
 have e : (nrmQ f.2).1 * D * E <= nrmI l (zAB M) * (nrmQ f.2).2 * E := by
  have e1 : (nrmQ f.2).1 * D * E = (nrmQ f.2).2 * (nrmI k (zAB M) * D) := by
   have : (nrmQ f.2).1 * D * E = ((nrmQ f.2).1 * E) * D := by grind
   rw [this, f2]; grind
  have e2 : nrmI l (zAB M) * (nrmQ f.2).2 * E = (nrmQ f.2).2 * (nrmI l (zAB M) * E) := by grind
  rw [e1, e2]
  exact Int.mul_le_mul_of_nonneg_left h4 (by omega)
 exact Int.le_of_mul_le_mul_right e hE
theorem zDB {M : Mask} {y : List Int} (hM : okM M = true) (hy : y.length = M.length) (hmil : milB y = true) {f : FitT} (hf : f ∈ zBE M y 10) :
 zCK (zAB M) f.1 ∧ f.2.length = f.1.length ∧ f.2.all zAM = true ∧ (∀ r ∈ f.2, r.1 ≠ 0) ∧ 0 < (nrmQ f.2).2 ∧ zAM (zAY (nrmQ f.2).1 (nrmQ f.2).2) = true ∧ zFG (zAQ M f.1) f.1.length = f.1.length ∧
  ∃ (l : Nat -> Int) (D : Int), SolM M (zAB M) y l D ∧ D <= 288 ∧ (∀ c, c < zAB M -> (c : Int) ∉ f.1 -> l c = 0) ∧ (∀ i (hi : i < f.1.length), (zAE f.2 i).1 * D = l (f.1[i]).toNat * (zAE f.2 i).2) ∧ (nrmQ f.2).1 * D = (nrmQ f.2).2 * nrmI l (zAB M) := by
 obtain ⟨hO, hm1, _, hc1, hc10⟩ := zCP hM
 have hmil' : ∀ v ∈ y, -1000000 <= v ∧ v <= 1000000 := fun v hv => by have := zGF hmil v hv; omega
 obtain ⟨S, hS, hfit⟩ := (fits_mem hM hy hmil).1 hf
 obtain ⟨rfl, h1, h2⟩ := zLE hfit
 have hsv : zBZ M S y = zAW (zAI (zAQ M S) y) S.length := by unfold zBZ; rw [if_pos (zPJ hM hy hmil hS)]
 rw [hsv] at h1 h2 ⊢
 have hy' : y.length = (zAQ M S).length := by rw [zBK]; exact hy
 obtain ⟨l, D, hD, hD288, k1, _, k3, hpos, hr, hv⟩ := zGW (hO.cols S) hy' hmil' h1
 obtain ⟨n1, n2⟩ := solve_norm (hO.cols S) hy' hmil' h1
 have hlen := zNI h1
 obtain ⟨P, hP⟩ := exq ((zAW (zAI (zAQ M S) y) S.length).1)
 rw [<- hP] at h2 k1 hpos hv n1 n2 hlen ⊢
 have hq : nrmQ P = zCE P S.length := by unfold nrmQ; rw [hlen]
 -- spread
 have hL : ((List.range S.length).map l).length = S.length := by simp
 have hvL : ∀ i, i < S.length -> vec ((List.range S.length).map l) i = l i := fun i hi => by unfold vec; rw [List.getElem?_map, List.getElem?_range hi]; rfl
 have hin : ∀ i (hi : i < S.length), vec (zAV (zAB M) S ((List.range S.length).map l) S.length) (S[i]).toNat = l i := fun i hi => by
  rw [zDW hS S.length (Nat.le_refl _) i hi hi]
  exact hvL i hi
 have hsum : ∀ r : Nat -> Int, sm (fun i => zFT S r i * l i) S.length = sm (fun c => r c * vec (zAV (zAB M) S ((List.range S.length).map l) S.length) c) (zAB M) := fun r => by
  have := zHR (l := (List.range S.length).map l) hS r S.length (Nat.le_refl _)
  unfold dotS at this
  rw [this]
  exact zAO fun i hi => by rw [hvL i hi]
 refine ⟨hS, hlen, List.all_eq_true.2 fun r hr => ?_, h2, by rw [hq]; exact n1, by rw [hq]; exact n2, hr, vec (zAV (zAB M) S ((List.range S.length).map l) S.length), D, ⟨hD, fun q hq => ?_⟩, hD288, fun c hc hn => zFO hS hn S.length (Nat.le_refl _), fun i hi => by rw [hin i hi]; exact k1 i hi, ?_⟩
 ·obtain ⟨i, hi, rfl⟩ := List.mem_iff_getElem.1 hr
  have := hv i
  unfold zAE at this
  rw [List.getElem?_eq_getElem hi] at this
  exact this
 ·have := k3.2 q (by rw [zBK]; exact hq)
  rw [zHT, hsum] at this
  exact this
 ·rw [hq, zGY hD hpos S.length k1]
  congr 1
  have h := hsum (fun c => sgnI (vec (zAV (zAB M) S ((List.range S.length).map l) S.length) c))
  have e1 : sm (fun c => sgnI (vec (zAV (zAB M) S ((List.range S.length).map l) S.length) c) * vec (zAV (zAB M) S ((List.range S.length).map l) S.length) c) (zAB M) = nrmI (vec (zAV (zAB M) S ((List.range S.length).map l) S.length)) (zAB M) := zAO fun c _ => zIM _
  rw [e1] at h
  rw [<- h]
  refine zAO fun i hi => ?_
  have e3 : zFT S (fun c => sgnI (vec (zAV (zAB M) S ((List.range S.length).map l) S.length) c)) i = sgnI (l i) := by
   unfold zFT; rw [List.getElem?_eq_getElem hi]
   simp only []
   rw [hin i hi]
  rw [e3, zIM]
end
section
def zAL : List Int -> List Int -> Bool
 | [], [] => false
 | [], _ :: _ => true
 | _ :: _, [] => false
 | x :: a, y :: b => if x = y then zAL a b else decide (x < y)
theorem zMR : ∀ a, zAL a a = false
 | [] => rfl
 | x :: a => by unfold zAL; rw [if_pos rfl]; exact zMR a
theorem zDU : ∀ a b, a = b ∨ zAL a b = true ∨ zAL b a = true
 | [], [] => .inl rfl
 | [], _ :: _ => .inr (.inl rfl)
 | _ :: _, [] => .inr (.inr rfl)
 | x :: a, y :: b => by
   by_cases e : x = y
   ·subst e
    rcases zDU a b with h | h | h
    ·exact .inl (by rw [h])
    ·exact .inr (.inl (by unfold zAL; rw [if_pos rfl]; exact h))
    ·exact .inr (.inr (by unfold zAL; rw [if_pos rfl]; exact h))
   ·rcases Int.lt_or_gt_of_ne e with h | h
    ·exact .inr (.inl (by unfold zAL; rw [if_neg e]; simpa using h))
    ·exact .inr (.inr (by unfold zAL; rw [if_neg (fun h => e h.symm)]; simpa using h))
theorem zHE : ∀ {a b}, zAL a b = true -> zAL b a = false
 | [], [], h => by cases h
 | [], _ :: _, _ => rfl
 | _ :: _, [], h => by cases h
 | x :: a, y :: b, h => by
   unfold zAL at h ⊢
   by_cases e : x = y
   ·subst e; rw [if_pos rfl] at h ⊢; exact zHE h
   ·rw [if_neg e] at h
    rw [if_neg (fun h => e h.symm)]
    have : x < y := by simpa using h
    rw [decide_eq_false_iff_not]; omega
theorem zDL : ∀ {a b c}, zAL a b = true -> zAL b c = true -> zAL a c = true
 | [], _, [], _, h => by rename_i b _; cases b <;> cases h
 | [], _, _ :: _, _, _ => rfl
 | _ :: _, [], _, h, _ => by cases h
 | _ :: _, _ :: _, [], _, h => by cases h
 | x :: a, y :: b, z :: c, h1, h2 => by
   unfold zAL at h1 h2 ⊢
   by_cases e : x = y
   ·subst e
    rw [if_pos rfl] at h1
    by_cases e2 : x = z
    ·subst e2; rw [if_pos rfl] at h2 ⊢; exact zDL h1 h2
    ·rw [if_neg e2] at h2 ⊢; exact h2
   ·rw [if_neg e] at h1
    have h1' : x < y := by simpa using h1
    by_cases e2 : y = z
    ·subst e2; rw [if_neg e]; exact h1
    ·rw [if_neg e2] at h2
     have h2' : y < z := by simpa using h2
     rw [if_neg (by omega)]; simp; omega
def zAS (f : FitT) : Rt := zAY (nrmQ f.2).1 (nrmQ f.2).2
def cmpF (r s : Rt) : Int := cmpR r.1 r.2 s.1 s.2
def zOJ (s : Rt × List FitT) (f : FitT) : Rt × List FitT :=
 if s.2 = [] ∨ cmpF (zAS f) s.1 < 0 then (zAS f, [f]) else if cmpF (zAS f) s.1 = 0 then (s.1, s.2 ++ [f]) else s
def zBD (l : List FitT) : Rt × List FitT := l.foldl zOJ ((0, 0), [])
theorem zHJ (l : List FitT) (f : FitT) : zBD (l ++ [f]) = zOJ (zBD l) f := by unfold zBD; rw [List.foldl_append]; rfl
theorem zPI {r s : Rt} (hr : 0 < r.2) (hs : 0 < s.2) : cmpF r s = cmpI (r.1 * s.2) (s.1 * r.2) := by
 unfold cmpF cmpR dF; rw [if_neg (by omega), if_neg (by omega)]
theorem cmpF_neg {r s : Rt} (hr : 0 < r.2) (hs : 0 < s.2) : cmpF r s < 0 ↔ r.1 * s.2 < s.1 * r.2 := by
 rw [zPI hr hs]; unfold cmpI; split <;> (try split) <;> omega
theorem cmpF_zero {r s : Rt} (hr : 0 < r.2) (hs : 0 < s.2) : cmpF r s = 0 ↔ r.1 * s.2 = s.1 * r.2 := by
 rw [zPI hr hs]; unfold cmpI; split <;> (try split) <;> omega
theorem low_eq {r s : Rt} (hr : zAM r = true) (hs : zAM s = true) (h : r.1 * s.2 = s.1 * r.2) : r = s := by
 obtain ⟨r1, r2⟩ := r
 obtain ⟨s1, s2⟩ := s
 obtain ⟨a1, _, _, _, a5⟩ := zBG.1 hr
 obtain ⟨b1, _, _, _, b5⟩ := zBG.1 hs
 simp only [] at *
 rw [<- zFA a5, <- zFA b5]
 exact zIO (by omega) (by omega) h
theorem zEK : ∀ (l : List FitT), (∀ f ∈ l, zAM (zAS f) = true) -> (l = [] -> zBD l = ((0, 0), [])) ∧ (l ≠ [] -> (zBD l).2 ≠ [] ∧ (∃ f ∈ l, (zBD l).1 = zAS f) ∧
 (∀ f ∈ l, (zBD l).1.1 * (zAS f).2 <= (zAS f).1 * (zBD l).1.2) ∧ (zBD l).2 = l.filter (fun f => decide (zAS f = (zBD l).1))) := by
 intro l
 induction hn : l.length generalizing l with
 | zero =>
   intro _
   have : l = [] := List.length_eq_zero_iff.1 hn
   subst this
   exact ⟨fun _ => rfl, fun h => absurd rfl h⟩
 | succ n ih =>
   intro hv
   obtain ⟨m, f, rfl⟩ : ∃ m f, l = m ++ [f] := ⟨l.dropLast, l.getLast (by intro e; rw [e] at hn; simp at hn), (List.dropLast_concat_getLast _).symm⟩
   have hml : m.length = n := by simpa using hn
   have hvm : ∀ g ∈ m, zAM (zAS g) = true := fun g hg => hv g (List.mem_append_left _ hg)
   have hvf : zAM (zAS f) = true := hv f (by simp)
   have pf : 0 < (zAS f).2 := by have := (zBG.1 hvf).1; omega
   obtain ⟨i1, i2⟩ := ih m hml hvm
   refine ⟨fun h => by simp at h, fun _ => ?_⟩
   rw [zHJ]
   by_cases hm : m = []
   ·subst hm
    have e : zOJ (zBD []) f = (zAS f, [f]) := by unfold zOJ; rw [if_pos (.inl rfl)]
    rw [List.nil_append, e]
    exact ⟨by simp, ⟨f, by simp, rfl⟩, fun g hg => by rw [List.mem_singleton.1 hg]; exact Int.le_refl _, by simp⟩
   ·obtain ⟨j1, ⟨g0, hg0, j2⟩, j3, j4⟩ := i2 hm
    have ps : 0 < (zBD m).1.2 := by rw [j2]; have := (zBG.1 (hvm g0 hg0)).1; omega
    have vs : zAM (zBD m).1 = true := by rw [j2]; exact hvm g0 hg0
    unfold zOJ
    by_cases c1 : (zBD m).2 = [] ∨ cmpF (zAS f) (zBD m).1 < 0
    ·rw [if_pos c1]
     have c2 : (zAS f).1 * (zBD m).1.2 < (zBD m).1.1 * (zAS f).2 := by
      rcases c1 with c | c
      ·exact absurd c j1
      ·exact (cmpF_neg pf ps).1 c
     have hlt : ∀ g ∈ m, (zAS f).1 * (zAS g).2 < (zAS g).1 * (zAS f).2 := fun g hg => by
      have h1 := j3 g hg
      have pg : 0 < (zAS g).2 := by have := (zBG.1 (hvm g hg)).1; omega
      have e1 : (zAS f).1 * (zBD m).1.2 * (zAS g).2 < (zBD m).1.1 * (zAS f).2 * (zAS g).2 := Int.mul_lt_mul_of_pos_right c2 pg
      have e2 : (zBD m).1.1 * (zAS g).2 * (zAS f).2 <= (zAS g).1 * (zBD m).1.2 * (zAS f).2 := Int.mul_le_mul_of_nonneg_right h1 (by omega)
      have e3 : (zAS f).1 * (zAS g).2 * (zBD m).1.2 < (zAS g).1 * (zAS f).2 * (zBD m).1.2 := by
       have x1 : (zAS f).1 * (zAS g).2 * (zBD m).1.2 = (zAS f).1 * (zBD m).1.2 * (zAS g).2 := by grind
       have x2 : (zBD m).1.1 * (zAS f).2 * (zAS g).2 = (zBD m).1.1 * (zAS g).2 * (zAS f).2 := by grind
       have x3 : (zAS g).1 * (zAS f).2 * (zBD m).1.2 = (zAS g).1 * (zBD m).1.2 * (zAS f).2 := by grind
       omega
      exact Int.lt_of_mul_lt_mul_right e3 (by omega)
     refine ⟨by simp, ⟨f, by simp, rfl⟩, fun g hg => ?_, ?_⟩
     ·rcases List.mem_append.1 hg with h | h
      ·exact Int.le_of_lt (hlt g h)
      ·rw [List.mem_singleton.1 h]; exact Int.le_refl _
     ·rw [List.filter_append]
      have : m.filter (fun g => decide (zAS g = zAS f)) = [] := by
       rw [List.filter_eq_nil_iff]
       intro g hg
       rw [decide_eq_true_eq]
       intro e
       have := hlt g hg
       rw [e] at this
       omega
      show [f] = _
      rw [this]; simp
    ·rw [if_neg c1]
     have c1' : ¬ cmpF (zAS f) (zBD m).1 < 0 := fun h => c1 (.inr h)
     have c3 : (zBD m).1.1 * (zAS f).2 <= (zAS f).1 * (zBD m).1.2 := by
      rcases Int.lt_or_le ((zAS f).1 * (zBD m).1.2) ((zBD m).1.1 * (zAS f).2) with h | h
      ·exact absurd ((cmpF_neg pf ps).2 h) c1'
      ·exact h
     have hle : ∀ g ∈ m ++ [f], (zBD m).1.1 * (zAS g).2 <= (zAS g).1 * (zBD m).1.2 := fun g hg => by
      rcases List.mem_append.1 hg with h | h
      ·exact j3 g h
      ·rw [List.mem_singleton.1 h]; exact c3
     by_cases c2 : cmpF (zAS f) (zBD m).1 = 0
     ·rw [if_pos c2]
      have e : zAS f = (zBD m).1 := low_eq hvf vs ((cmpF_zero pf ps).1 c2)
      refine ⟨by simp, ⟨g0, List.mem_append_left _ hg0, j2⟩, hle, ?_⟩
      rw [List.filter_append, <- j4]
      simp [e]
     ·rw [if_neg c2]
      refine ⟨j1, ⟨g0, List.mem_append_left _ hg0, j2⟩, hle, ?_⟩
      rw [List.filter_append, <- j4]
      have : ¬ zAS f = (zBD m).1 := fun e => c2 ((cmpF_zero pf ps).2 (by rw [e]))
      simp [this]
def AscF (l : List FitT) : Prop := l.Pairwise (fun f g => zAL f.1 g.1 = true)
theorem asc_uniq {l m : List FitT} (hl : AscF l) (hm : AscF m) (h : l.Perm m) : l = m :=
 List.Perm.eq_of_pairwise (fun a b _ _ h1 h2 => by rw [zHE h1] at h2; cases h2) hl hm h
def insC (f : FitT) : List FitT -> List FitT
 | [] => [f]
 | g :: l => if zAL f.1 g.1 = true then f :: g :: l else g :: insC f l
def zGV (l : List FitT) : List FitT := l.foldl (fun o f => insC f o) []
theorem zFW (f : FitT) : ∀ l, (insC f l).Perm (f :: l)
 | [] => List.Perm.refl _
 | g :: l => by
   unfold insC
   split
   ·exact List.Perm.refl _
   ·exact ((zFW f l).cons g).trans (List.Perm.swap f g l)
theorem zOY {f : FitT} : ∀ {l : List FitT}, AscF l -> (∀ g ∈ l, g.1 ≠ f.1) -> AscF (insC f l)
 | [], _, _ => by unfold insC AscF; simp
 | g :: l, h, hn => by
   unfold AscF at h
   rw [List.pairwise_cons] at h
   unfold insC
   split
   ·rename_i c
    unfold AscF
    rw [List.pairwise_cons]
    refine ⟨fun x hx => ?_, List.pairwise_cons.2 h⟩
    rcases List.mem_cons.1 hx with rfl | hx
    ·exact c
    ·exact zDL c (h.1 x hx)
   ·rename_i c
    have ih := zOY (f := f) h.2 (fun x hx => hn x (by simp [hx]))
    unfold AscF
    rw [List.pairwise_cons]
    refine ⟨fun x hx => ?_, ih⟩
    rcases List.mem_cons.1 ((zFW f l).mem_iff.1 hx) with rfl | hx
    ·rcases zDU x.1 g.1 with e | e | e
     ·exact absurd e.symm (hn g (by simp))
     ·exact absurd e c
     ·exact e
    ·exact h.1 x hx
theorem zHI : ∀ {l : List FitT}, (l.map (·.1)).Nodup -> AscF (zGV l) ∧ (zGV l).Perm l := by
 intro l
 induction hn : l.length generalizing l with
 | zero =>
   intro _
   have : l = [] := List.length_eq_zero_iff.1 hn
   subst this
   exact ⟨List.Pairwise.nil, List.Perm.refl _⟩
 | succ n ih =>
   intro hd
   obtain ⟨m, f, rfl⟩ : ∃ m f, l = m ++ [f] := ⟨l.dropLast, l.getLast (by intro e; rw [e] at hn; simp at hn), (List.dropLast_concat_getLast _).symm⟩
   rw [List.map_append, List.nodup_append] at hd
   obtain ⟨h1, h2⟩ := ih (by simpa using hn) hd.1
   have e : zGV (m ++ [f]) = insC f (zGV m) := by unfold zGV; rw [List.foldl_append]; rfl
   rw [e]
   refine ⟨zOY h1 fun g hg e => ?_, (zFW f _).trans ((h2.cons f).trans (List.perm_append_singleton f m).symm)⟩
   have hg' := h2.mem_iff.1 hg
   exact hd.2.2 g.1 (List.mem_map.2 ⟨g, hg', rfl⟩) f.1 (by simp) e
def zFJ (M : Mask) (y : List Int) : List FitT := zGV (zBD (zBE M y 10)).2
end
section
open Go.RowKit
def HdF (W : World) (us ur : Value) (f : FitT) : Prop := ∃ pa pn pc va vn vc, us = .slice pa pn pc ∧ ur = .slice va vn vc ∧ f.1.length = pn ∧ pn <= maxLen ∧ zAH W pa f.1 ∧ f.2.length = vn ∧ vn <= maxLen ∧ zCJ W va f.2
theorem HdF.below {W W' : World} {us ur : Value} {f : FitT} (h : HdF W us ur f) (hb : Below W.heap.size W W') : HdF W' us ur f := by
 obtain ⟨pa, pn, pc, va, vn, vc, e1, e2, h1, h2, h3, h4, h5, h6⟩ := h
 exact ⟨pa, pn, pc, va, vn, vc, e1, e2, h1, h2, h3.below hb, h4, h5, h6.below hb⟩
theorem zEX.hd {W : World} {a : Option Addr} {T : List FitT} (h : zEX W a T) {j : Nat} (hj : j < T.length) :
 ∃ b off us ur, a = some ⟨b, off, none⟩ ∧ b < W.heap.size ∧ W.cell? ⟨b, off + j * 2, none⟩ = some us ∧ W.cell? ⟨b, off + j * 2 + 1, none⟩ = some ur ∧ HdF W us ur T[j] := by
 obtain ⟨b, off, pa, pn, pc, va, vn, vc, e, hb, h0, h1, h2, h3, h4, h5, h6, h7⟩ := h j hj
 exact ⟨b, off, _, _, e, hb, h0, h1, pa, pn, pc, va, vn, vc, rfl, rfl, h2, h3, h4, h5, h6, h7⟩
def TabF (X W : World) (v : Value) (T : List FitT) : Prop :=
 ∃ xs, W.ownsRow X.heap.size 73 2 v T.length xs ∧ ∀ j (hj : j < T.length), ∃ us ur, xs[j * 2]? = some us ∧ xs[j * 2 + 1]? = some ur ∧ HdF X us ur T[j]
theorem TabF.nil (X W : World) : TabF X W (.slice none 0 0) [] := ⟨[], World.ownsRow_nil _ _ _ _, fun j hj => by simp at hj⟩
theorem TabF.below {X W W' : World} {v : Value} {T : List FitT} (h : TabF X W v T) (hb : Below W.heap.size W W') : TabF X W' v T := by
 obtain ⟨xs, h1, h2⟩ := h
 exact ⟨xs, zBJ h1 hb, h2⟩
theorem TabF.slice {X W : World} {v : Value} {T : List FitT} (h : TabF X W v T) : ∃ a c, v = .slice a T.length c := by
 obtain ⟨xs, ho, _⟩ := h; exact zAC ho
theorem TabF.reads {X W : World} {v : Value} {T : List FitT} (h : TabF X W v T) (hb : Below X.heap.size X W) : ∃ a cap, v = .slice a T.length cap ∧ T.length <= maxLen ∧ zEX W a T := by
 obtain ⟨xs, ho, he⟩ := h
 rcases ho.2 with ⟨rfl, h0⟩ | ⟨g, cap, cur, rfl, hbg, hgg, hnc, hcm, hsz, htk⟩
 ·exact ⟨none, 0, by rw [h0], by rw [h0]; decide, fun j hj => by omega⟩
 ·refine ⟨_, cap, rfl, by omega, fun j hj => ?_⟩
  obtain ⟨us, ur, h1, h2, pa, pn, pc, va, vn, vc, rfl, rfl, k1, k2, k3, k4, k5, k6⟩ := he j hj
  have hc : ∀ i, i < T.length * 2 -> W.cell? ⟨g, i, none⟩ = xs[i]? := fun i hi =>
   World.ownsRow.cellAt (w := W) (base := X.heap.size) (e := 73) (size := 2) (g := g) (n := T.length) (cap := cap) (xs := xs) ⟨ho.1, .inr ⟨g, cap, cur, rfl, hbg, hgg, hnc, hcm, hsz, htk⟩⟩ i hi
  exact ⟨g, 0, pa, pn, pc, va, vn, vc, rfl, (Array.getElem?_eq_some_iff.1 hgg).1, by rw [Nat.zero_add, hc _ (by omega)]; exact h1, by rw [Nat.zero_add, hc _ (by omega)]; exact h2, k1, k2, k3.below hb, k4, k5, k6.below hb⟩
theorem TabF.snoc {X w2 : World} {v' us ur : Value} {T : List FitT} {t : FitT} {xs : List Value} {q : Nat} (hq : T.length = q)
 (hl : xs.length = q * 2) (he : ∀ j (hj : j < T.length), ∃ us ur, xs[j * 2]? = some us ∧ xs[j * 2 + 1]? = some ur ∧ HdF X us ur T[j]) (h1 : HdF X us ur t)
 (ho' : w2.ownsRow X.heap.size 73 2 v' (q + 1) (xs ++ [us, ur])) : TabF X w2 v' (T ++ [t]) := by
 subst hq
 refine ⟨xs ++ [us, ur], by rw [List.length_append]; exact ho', fun j hj => ?_⟩
 by_cases e : j < T.length
 ·obtain ⟨us', ur', k1, k2, k3⟩ := he j e
  refine ⟨us', ur', by rw [List.getElem?_append_left (by omega)]; exact k1, by rw [List.getElem?_append_left (by omega)]; exact k2, ?_⟩
  rw [List.getElem_append_left e]; exact k3
 ·have : j = T.length := by simp at hj; omega
  subst this
  refine ⟨us, ur, by rw [List.getElem?_append_right (by omega), hl]; simp, by rw [List.getElem?_append_right (by omega), hl, show T.length * 2 + 1 - T.length * 2 = 1 by omega]; rfl, ?_⟩
  simp only [List.getElem_append_right (Nat.le_refl _), Nat.sub_self, List.getElem_cons_zero]; exact h1
theorem TabF.at {X W : World} {v : Value} {T : List FitT} (h : TabF X W v T) {j : Nat} (hj : j < T.length) :
 ∃ g cap us ur, v = .slice (some ⟨g, 0, none⟩) T.length cap ∧ X.heap.size <= g ∧ g < W.heap.size ∧ W.cell? ⟨g, j * 2, none⟩ = some us ∧ W.cell? ⟨g, j * 2 + 1, none⟩ = some ur ∧ HdF X us ur T[j] ∧ (∀ o, W.frozen? ⟨g, o, none⟩ = false) ∧
   ∀ us' ur' f', HdF X us' ur' f' -> TabF X ((W.setCell ⟨g, j * 2, none⟩ us').setCell ⟨g, j * 2 + 1, none⟩ ur') v (T.set j f') := by
 obtain ⟨xs, h1, h2⟩ := h
 obtain ⟨us, ur, hu, hr, hd⟩ := h2 j hj
 rcases h1.2 with ⟨rfl, h0⟩ | ⟨g, cap, cur, rfl, hbg, hgg, hnc, hcm, hsz, htk⟩
 ·omega
 have hcell := fun i hi => World.ownsRow.cellAt (w := W) (base := X.heap.size) (e := 73) (size := 2) (g := g) (n := T.length) (cap := cap) (xs := xs) h1 i hi
 have hvl : xs.length = T.length * 2 := h1.1
 refine ⟨g, cap, us, ur, rfl, hbg, (Array.getElem?_eq_some_iff.1 hgg).1, by rw [hcell _ (by omega)]; exact hu, by rw [hcell _ (by omega)]; exact hr, hd, fun o => by simp [World.frozen?, hgg], ?_⟩
 intro us' ur' f' hf'
 have hb2 : ((W.setCell ⟨g, j * 2, none⟩ us').setCell ⟨g, j * 2 + 1, none⟩ ur').heap[g]? = some (.cells ((cur.setIfInBounds (j * 2) us').setIfInBounds (j * 2 + 1) ur') 73 (0, 0)) := zAR (zAR hgg _ us') _ ur'
 refine ⟨(xs.set (j * 2) us').set (j * 2 + 1) ur', ⟨by simpa using h1.1, .inr ⟨g, cap, (cur.setIfInBounds (j * 2) us').setIfInBounds (j * 2 + 1) ur', by simp, hbg, hb2, by simpa using hnc, hcm, by simpa using hsz, ?_⟩⟩, fun i hi => ?_⟩
 ·rw [<- htk]
  simp only [Array.toList_setIfInBounds, List.length_set]
  rw [List.take_set, List.take_set]
 ·have hi' : i < T.length := by simpa using hi
  by_cases e : j = i
  ·subst e
   refine ⟨us', ur', ?_, ?_, by simpa using hf'⟩
   ·rw [List.getElem?_set_ne (by omega), List.getElem?_set_self (by omega)]
   ·rw [List.getElem?_set_self (by rw [List.length_set]; omega)]
  ·obtain ⟨u2, r2, hu2, hr2, hd2⟩ := h2 i hi'
   refine ⟨u2, r2, ?_, ?_, by rw [List.getElem_set_ne e]; exact hd2⟩
   ·rw [List.getElem?_set_ne (by omega), List.getElem?_set_ne (by omega)]; exact hu2
   ·rw [List.getElem?_set_ne (by omega), List.getElem?_set_ne (by omega)]; exact hr2
theorem TabF.put {X W : World} {g n cap : Nat} {T : List FitT} (h : TabF X W (.slice (some ⟨g, 0, none⟩) n cap) T) {j : Nat} (hj : j < T.length) {us' ur' : Value} {f' : FitT} (hf : HdF X us' ur' f') :
 TabF X ((W.setCell ⟨g, j * 2, none⟩ us').setCell ⟨g, j * 2 + 1, none⟩ ur') (.slice (some ⟨g, 0, none⟩) n cap) (T.set j f') := by
 obtain ⟨g', cap', us, ur, e, _, _, _, _, _, _, hs⟩ := h.at hj
 simp only [Value.slice.injEq, Option.some.injEq, Addr.mk.injEq, and_true] at e
 obtain ⟨rfl, _, _⟩ := e
 exact hs _ _ _ hf
theorem earlier_step {a b : List Int} {k : Nat} (hk : k < a.length) (hk2 : k < b.length) : zAL (a.drop k) (b.drop k) = if a[k] = b[k] then zAL (a.drop (k + 1)) (b.drop (k + 1)) else decide (a[k] < b[k]) := by
 rw [List.drop_eq_getElem_cons hk, List.drop_eq_getElem_cons hk2]; rfl
theorem earlier_last {a b : List Int} {k : Nat} (h : a.length <= k ∨ b.length <= k) (hk : k <= a.length) (hk2 : k <= b.length) : zAL (a.drop k) (b.drop k) = decide (a.length < b.length) := by
 rcases Nat.lt_or_ge k a.length with c | c
 ·have e : k = b.length := by omega
  subst e
  rw [List.drop_of_length_le (Nat.le_refl b.length), List.drop_eq_getElem_cons c, decide_eq_false (by omega)]; rfl
 ·have e : k = a.length := by omega
  subst e
  rw [List.drop_of_length_le (Nat.le_refl a.length)]
  rcases Nat.lt_or_ge a.length b.length with d | d
  ·rw [List.drop_eq_getElem_cons d, decide_eq_true d]; rfl
  ·rw [List.drop_of_length_le d, decide_eq_false (by omega)]; rfl
theorem r5earlier_c (w : World) (a a2 : Option Addr) (n cap n2 cap2 : Nat) (l l2 : List Int) (hn : l.length = n) (hn2 : l2.length = n2) (hm : n <= maxLen) (hm2 : n2 <= maxLen) (H : zAH w a l) (H2 : zAH w a2 l2) :
 Calls Tryz.prog 158 #[.slice a n cap, .slice a2 n2 cap2] w fun e w' => e = .returned (.bool (zAL l l2)) ∧ Below w.heap.size w w' := by
 have HN := hid hn
 have HN2 := hid hn2
 have HH := hid H
 have HH2 := hid H2
 obtain ⟨R, hR⟩ := exq (zAL l l2)
 rw [<- hR]
 have HRE := hid hR
 clear hn hn2 H H2 hR
 unfold maxLen at hm hm2
 go_enter Tryz.func158, Tryz.ntmps158
 go_wp2
 go_loopw [5] (fun i wr => ∃ k : Nat, k <= n ∧ k <= n2 ∧ i = .int .i64 k ∧ zAL (l.drop k) (l2.drop k) = R ∧ (∃ q, wr = w.drewN q)) (fun i _ => n - (intOf i).toNat)
 case atStart => exact ⟨0, Nat.zero_le _, Nat.zero_le _, rfl, HRE.out.symm, 0, rfl⟩
 case round =>
  obtain ⟨k, hk, hk2, rfl, hR, q, rfl⟩ := hrel
  by_cases hlt : k < n ∧ k < n2
  ·obtain ⟨hlt, hlt2⟩ := hlt
   have hkl : k < l.length := by rw [HN.out]; exact hlt
   have hkl2 : k < l2.length := by rw [HN2.out]; exact hlt2
   obtain ⟨b, off, rfl, hbs, hc⟩ := HH.out k hkl
   obtain ⟨b2, off2, rfl, hbs2, hc2⟩ := HH2.out k hkl2
   have hst := earlier_step hkl hkl2
   rw [hR] at hst
   have hg : l[k]?.getD 0 = l[k] := by rw [List.getElem?_eq_getElem hkl]; rfl
   have hg2 : l2[k]?.getD 0 = l2[k] := by rw [List.getElem?_eq_getElem hkl2]; rfl
   rw [hg] at hc
   rw [hg2] at hc2
   obtain ⟨x, hx⟩ := exq (l[k])
   obtain ⟨y, hy⟩ := exq (l2[k])
   rw [<- hx] at hc hst
   rw [<- hy] at hc2 hst
   have i1 : (k : Int) < (n : Int) := by omega
   have i2 : (k : Int) < (n2 : Int) := by omega
   have HST := hid hst
   clear hg hg2 hx hy hR hst hbs hbs2 hkl hkl2
   by_cases he : x = y
   ·subst he
    have hb : (x != x) = false := by simp
    have HNX := hid (show zAL (l.drop (k + 1)) (l2.drop (k + 1)) = R by rw [HST.out, if_pos rfl])
    go_wp2
    go_quiet (fail)
    go_wp2
    exact ⟨⟨k + 1, by omega, by omega, by go_num, HNX.out, _, rfl⟩, by simp [intOf]; omega⟩
   ·have hb : (x != y) = true := by simp [he]
    have HNX := hid (show R = decide (x < y) by rw [HST.out, if_neg he])
    clear he
    go_wp2
    go_quiet (fail)
    go_wp2
    go_quiet (fail)
    go_wp2
    go_ret
    exact ⟨by rw [HNX.out] <;> rfl, zAN (zAN (zAN (Below.refl _ _) _) _) _⟩
  ·have hlast := earlier_last (a := l) (b := l2) (k := k) (by rw [HN.out, HN2.out]; omega) (by rw [HN.out]; exact hk) (by rw [HN2.out]; exact hk2)
   rw [hR, HN.out, HN2.out] at hlast
   have HL := hid hlast
   clear hlast hR
   have hdec : decide ((n : Int) < (n2 : Int)) = decide (n < n2) := by simp
   by_cases h1 : k < n
   ·have h2 : ¬ k < n2 := fun h => hlt ⟨h1, h⟩
    clear hlt
    have i1 : (k : Int) < (n : Int) := by omega
    have i2 : ¬ ((k : Int) < (n2 : Int)) := by omega
    have i3 : ¬ ((n : Int) < (n2 : Int)) := by omega
    have HL2 := hid (show R = false by rw [HL.out, decide_eq_false (by omega)])
    go_wp2
    go_ret
    exact ⟨by rw [HL2.out] <;> rfl, zAN (Below.refl _ _) _⟩
   ·clear hlt
    have i1 : ¬ ((k : Int) < (n : Int)) := by omega
    by_cases h2 : n < n2
    ·have i3 : (n : Int) < (n2 : Int) := by omega
     have HL2 := hid (show R = true by rw [HL.out, decide_eq_true h2])
     go_wp2
     go_ret
     exact ⟨by rw [HL2.out] <;> rfl, zAN (Below.refl _ _) _⟩
    ·have i3 : ¬ ((n : Int) < (n2 : Int)) := by omega
     have HL2 := hid (show R = false by rw [HL.out, decide_eq_false h2])
     go_wp2
     go_ret
     exact ⟨by rw [HL2.out] <;> rfl, zAN (Below.refl _ _) _⟩
end
section
open Go.RowKit
def FitC (W : World) (S : Nat -> Prop) (us ur : Value) (f : FitT) : Prop :=
 ∃ pa pn pc va vn vc, us = .slice pa pn pc ∧ ur = .slice va vn vc ∧ f.1.length = pn ∧ f.2.length = vn ∧ pn <= maxLen ∧ vn <= maxLen ∧ zAH W pa f.1 ∧ zCJ W va f.2 ∧
   (∀ b o, pa = some ⟨b, o, none⟩ -> S b ∧ b < W.heap.size ∧ ∃ c z, W.heap[b]? = some (.cells c 3 z)) ∧ (∀ b o, va = some ⟨b, o, none⟩ -> S b ∧ b < W.heap.size ∧ ∃ c z, W.heap[b]? = some (.cells c 29 z))
theorem FitC.keep {W W' : World} {S S' K : Nat -> Prop} {us ur : Value} {f : FitT} (h : FitC W S us ur f) (hk : Keep K W W') (hS : ∀ b, S b -> b < W.heap.size -> (∃ c T z, (T = 3 ∨ T = 29) ∧ W.heap[b]? = some (.cells c T z)) -> K b ∧ S' b) : FitC W' S' us ur f := by
 obtain ⟨pa, pn, pc, va, vn, vc, e1, e2, h1, h2, h3, h4, h5, h6, h7, h8⟩ := h
 have s7 : ∀ b o, pa = some ⟨b, o, none⟩ -> K b ∧ S' b := fun b o e => by obtain ⟨g1, g2, c, z, g3⟩ := h7 b o e; exact hS b g1 g2 ⟨c, _, z, .inl rfl, g3⟩
 have s8 : ∀ b o, va = some ⟨b, o, none⟩ -> K b ∧ S' b := fun b o e => by obtain ⟨g1, g2, c, z, g3⟩ := h8 b o e; exact hS b g1 g2 ⟨c, _, z, .inr rfl, g3⟩
 refine ⟨pa, pn, pc, va, vn, vc, e1, e2, h1, h2, h3, h4, fun j hj => ?_, fun j hj => ?_, fun b o e => ?_, fun b o e => ?_⟩
 ·obtain ⟨b, o, e, hlt, hc⟩ := h5 j hj
  exact ⟨b, o, e, Nat.lt_of_lt_of_le hlt hk.size, hk.cell hc (s7 b o e).1⟩
 ·obtain ⟨b, o, e, hlt, hc, hd⟩ := h6 j hj
  exact ⟨b, o, e, Nat.lt_of_lt_of_le hlt hk.size, hk.cell hc (s8 b o e).1, hk.cell hd (s8 b o e).1⟩
 ·obtain ⟨g1, g2, c, z, g3⟩ := h7 b o e
  exact ⟨(s7 b o e).2, Nat.lt_of_lt_of_le g2 hk.size, c, z, (hk.block b g2 (s7 b o e).1).trans g3⟩
 ·obtain ⟨g1, g2, c, z, g3⟩ := h8 b o e
  exact ⟨(s8 b o e).2, Nat.lt_of_lt_of_le g2 hk.size, c, z, (hk.block b g2 (s8 b o e).1).trans g3⟩
def zCR (W : World) (base : Nat) (S : Nat -> Prop) (v : Value) (T : List FitT) : Prop :=
 ∃ xs, W.ownsRow base 73 2 v T.length xs ∧ (∀ k, v.ownBlock = some k -> S k) ∧ ∀ j (hj : j < T.length), ∃ us ur, xs[j * 2]? = some us ∧ xs[j * 2 + 1]? = some ur ∧ FitC W S us ur T[j]
theorem zCR.nil (W : World) (base : Nat) (S : Nat -> Prop) : zCR W base S (.slice none 0 0) [] := ⟨[], World.ownsRow_nil _ _ _ _, fun k hk => by simp [Value.ownBlock] at hk, fun j hj => by simp at hj⟩
theorem zCR.slice {W : World} {base : Nat} {S : Nat -> Prop} {v : Value} {T : List FitT} (h : zCR W base S v T) : ∃ a c, v = .slice a T.length c := by
 obtain ⟨xs, ho, _⟩ := h; exact zAC ho
theorem zCR.keep {W W' : World} {base : Nat} {S S' K : Nat -> Prop} {v : Value} {T : List FitT} (h : zCR W base S v T) (hk : Keep K W W') (hS : ∀ b, S b -> b < W.heap.size -> K b ∧ S' b) : zCR W' base S' v T := by
 obtain ⟨xs, ho, hg, he⟩ := h
 refine ⟨xs, ⟨ho.1, ?_⟩, fun k hk' => ?_, fun j hj => ?_⟩
 ·rcases ho.2 with hn | ⟨g, cap, cur, rfl, hb, hgg, rest⟩
  ·exact .inl hn
  ·have hlt := (Array.getElem?_eq_some_iff.1 hgg).1
   exact .inr ⟨g, cap, cur, rfl, hb, (hk.block g hlt (hS g (hg g rfl) hlt).1).trans hgg, rest⟩
 ·rcases ho.2 with ⟨rfl, _⟩ | ⟨g, cap, cur, rfl, hb, hgg, rest⟩
  ·simp [Value.ownBlock] at hk'
  ·obtain rfl : g = k := by simpa [Value.ownBlock] using hk'
   exact (hS g (hg g rfl) (Array.getElem?_eq_some_iff.1 hgg).1).2
 ·obtain ⟨us, ur, h1, h2, h3⟩ := he j hj
  exact ⟨us, ur, h1, h2, h3.keep hk fun b hb hlt _ => hS b hb hlt⟩
theorem zCR.below {W W' : World} {base : Nat} {S : Nat -> Prop} {v : Value} {T : List FitT} (h : zCR W base S v T) (hb : Below W.heap.size W W') : zCR W' base S v T :=
 h.keep (Keep.of_below hb : Keep (fun _ => True) _ _) (fun _ h _ => ⟨trivial, h⟩)
theorem zCR.snoc {W w1 w2 : World} {base : Nat} {S : Nat -> Prop} {v v' us ur : Value} {T : List FitT} {t : FitT} {xs : List Value}
 (ho : W.ownsRow base 73 2 v T.length xs) (he : ∀ j (hj : j < T.length), ∃ us ur, xs[j * 2]? = some us ∧ xs[j * 2 + 1]? = some ur ∧ FitC W S us ur T[j]) (h1 : FitC W S us ur t)
 (hW1 : Below W.heap.size W w1) (hg : w1.grownBy w2 v.ownBlock) (ho' : w2.ownsRow base 73 2 v' (T.length + 1) (xs ++ [us, ur])) (hS' : ∀ k, v'.ownBlock = some k -> S k) : zCR w2 base S v' (T ++ [t]) := by
 have hlen : xs.length = T.length * 2 := ho.1
 have hk : Keep (fun b => some b ≠ v.ownBlock) W w2 := (Keep.of_below hW1).trans (Keep.grown hg)
 have hel : ∀ us ur f, FitC W S us ur f -> FitC w2 S us ur f := fun us ur f h => h.keep hk fun b hb hlt ⟨c, E, z, hE, hh⟩ => by
  refine ⟨?_, hb⟩
  rcases ho.2 with ⟨rfl, _⟩ | ⟨g, cap, cur, rfl, hbg, hgg, _⟩
  ·simp [Value.ownBlock]
  ·intro e
   obtain rfl : b = g := by simpa [Value.ownBlock] using e
   rw [hh] at hgg
   cases hgg
   rcases hE with h | h
   ·exact absurd h (by decide)
   ·exact absurd h (by decide)
 refine ⟨xs ++ [us, ur], by rw [List.length_append]; exact ho', hS', fun j hj => ?_⟩
 by_cases e : j < T.length
 ·obtain ⟨us', ur', k1, k2, k3⟩ := he j e
  refine ⟨us', ur', by rw [List.getElem?_append_left (by omega)]; exact k1, by rw [List.getElem?_append_left (by omega)]; exact k2, ?_⟩
  rw [List.getElem_append_left e]; exact hel _ _ _ k3
 ·have : j = T.length := by simp at hj; omega
  subst this
  refine ⟨us, ur, by rw [List.getElem?_append_right (by omega), hlen]; simp, by rw [List.getElem?_append_right (by omega), hlen, show T.length * 2 + 1 - T.length * 2 = 1 by omega]; rfl, ?_⟩
  simp only [List.getElem_append_right (Nat.le_refl _), Nat.sub_self, List.getElem_cons_zero]
  exact hel _ _ _ h1
theorem FitV.fitC {lo : Nat} {S S' : Nat -> Prop} {f : FitT} {us ur : Value} {W : World} (h : FitV lo S f (.agg #[us, ur]) W) (hS : ∀ b, lo <= b -> b < W.heap.size -> ¬ S b -> S' b) : FitC W S' us ur f := by
 obtain ⟨pa, pn, pc, va, vn, vc, e, h1, h2, h3, h4, h5, h6, h7, h8⟩ := h
 simp only [Value.agg.injEq, Array.mk.injEq, List.cons.injEq, and_true] at e
 obtain ⟨rfl, rfl⟩ := e
 refine ⟨pa, pn, pc, va, vn, vc, rfl, rfl, h1, h2, h3, h4, h5, h6, fun b o e => ?_, fun b o e => ?_⟩
 ·obtain ⟨g1, g2, g3, g4⟩ := h7 b o e
  exact ⟨hS b g1 g2 g3, g2, g4⟩
 ·obtain ⟨g1, g2, g3, g4⟩ := h8 b o e
  exact ⟨hS b g1 g2 g3, g2, g4⟩
end
section
open Go.RowKit
attribute [local go_sem] Oper.semAt_some
theorem newsD (w : World) (x0 x1 : Value) (T : TypeId) : ∀ j u, [x0, x1][j]? = some u -> (w.alloc (.cells #[x0, x1] T)).cell? ((⟨w.heap.size, 0, none⟩ : Addr).add j) = some u := by
 intro j u hu
 match j, hu with
 | 0, hu => rw [Addr.add_lit, World.cell?_alloc_at _ _ _ _ rfl]; simpa using hu
 | 1, hu => rw [Addr.add_lit, World.cell?_alloc_at _ _ _ _ rfl]; simpa using hu
structure ColI (w : World) (base : Nat) (Sr : Nat -> Prop) (pre : List FitT) (Z : World) : Prop where
 b : Below w.heap.size w Z
 z : base <= Z.heap.size
 o : ∃ v, Boxed Z w.heap.size 87 v ∧ zCR Z base (fun q => base <= q ∧ ¬ Sr q) v pre
theorem ColI.keep {w A B : World} {base : Nat} {S S' : Nat -> Prop} {pre : List FitT} (h : ColI w base S pre A) (hn : ∀ k, S' k -> S k ∨ A.heap.size <= k) (hl : ∀ k, S' k -> base <= k) (hb : w.heap.size < base)
 (hk : Keep (fun k => (k <= w.heap.size ∨ base <= k) ∧ ¬ S' k) A B) : ColI w base S' pre B := by
 have hns : ∀ k, k < base -> ¬ S' k := fun k hk hs => by have := hl k hs; omega
 obtain ⟨v, h1, h2⟩ := h.o
 refine ⟨hk.below h.b h.b.size fun k hk => ⟨by omega, hns k (by omega)⟩, Nat.le_trans h.z hk.size, v, (hk.block _ h1.lt ⟨by omega, hns _ (by omega)⟩).trans h1, h2.keep hk fun q hq hlt => ?_⟩
 have h4 : ¬ S' q := fun hs => by
  rcases hn q hs with h | h
  ·exact hq.2 h
  ·omega
 exact ⟨⟨.inr hq.1, h4⟩, hq.1, h4⟩
theorem appendFits_c (w : World) (k kb qb : Nat) (a a2 : Option Addr) (n cap n2 cap2 : Nat) (M : Mask) (y : List Int) (hn : M.length = n) (hn2 : y.length = n2) (hm : n <= maxLen) (hm2 : n2 <= maxLen) (h1 : 1 <= n) (hW : zAB M <= 10) (hk : k <= 1000)
 (hkb : kb < w.heap.size) (hqb : qb < w.heap.size) (hck : w.cell? ⟨kb, 0, none⟩ = some (.int .i64 k)) (hcq : w.heap[qb]? = some (.cells #[.slice a n cap, .slice a2 n2 cap2] 216 (0, 0))) (H : zAK w a M) (H2 : zAH w a2 y) :
 Calls Tryz.prog 253 #[.slice none 0 0, .func (.func 254) #[] #[.pointer (some ⟨kb, 0, none⟩), .pointer (some ⟨qb, 0, none⟩)]] w fun e w' =>
  Below w.heap.size w w' ∧ ∃ v base, e = .returned v ∧ w.heap.size <= base ∧ zCR w' base (fun q => w.heap.size <= q) v (zBE M y k) := by
 obtain ⟨w1, hw1⟩ := exq (w.alloc (.cells #[.slice none 0 0] 87))
 have hs1 : w1.heap.size = w.heap.size + 1 := by rw [hw1, World.size_alloc]
 have hb1 : Below w.heap.size w w1 := by rw [hw1]; exact (Below.refl _ _).alloc (Nat.le_refl _) _
 have hB : Boxed w1 w.heap.size 87 (.slice none 0 0) := by rw [hw1]; exact World.alloc_heap_new _ _
 obtain ⟨fp, hfp⟩ : ∃ fp : Nat -> Prop, fp = fun q => q < w.heap.size := ⟨_, rfl⟩
 have HIT := hid (fits_iter w1 fp k kb qb a a2 n cap n2 cap2 M y hn hn2 hm hm2 h1 (by omega) hk (by rw [hfp]; intro q hq; show q < w1.heap.size; have : q < w.heap.size := hq; omega) (by rw [hfp]; exact hkb) (by rw [hfp]; exact hqb)
  ((hb1.cell (p := ⟨kb, 0, none⟩) hkb).trans hck) ((hb1.block _ hqb).trans hcq)
  (fun X _ hX => by
    have hX2 : ∀ q, q < w.heap.size -> X.heap[q]? = w.heap[q]? := fun q hq => (hX q (by rw [hfp]; exact hq)).trans (hb1.block q hq)
    exact ⟨zAK.blk H hX2, zAH.blk H2 hX2⟩))
 have HCNT := hid (show (zBE M y k).length <= 11264 by
  have h3 := zDE M y (zAB M) (min (min k (zAB M)) M.length + 1)
  have h4 : 2 ^ (zAB M) <= 1024 := Nat.pow_le_pow_right (by omega) (show zAB M <= 10 by omega)
  have h5 : (min (min k (zAB M)) M.length + 1) * 2 ^ (zAB M) <= 11 * 1024 := Nat.mul_le_mul (by omega) h4
  have h6 : (zBE M y k).length = (zBQ M y (zAB M) (min (min k (zAB M)) M.length + 1)).length := rfl
  omega)
 have HFP := hid hfp
 have HW1 := hid hw1
 have HS1 := hid hs1
 have HB1 := hid hb1
 have HBX := hid hB
 clear hn hn2 hm hm2 h1 hW hk hkb hqb hck hcq H H2 hw1 hs1 hb1 hB hfp
 refine callsIn_wide (n := 0) |>.1 ?_
 refine callsIn_of_wp_marks Tryz.func253 rfl trivial ?_ rfl
 simp only [Tryz.ntmps253, List.size_toArray, List.length_cons, List.length_nil, Nat.reduceAdd, Nat.reduceSub, Array.replicate_succ, Array.replicate_zero, List.push_toArray, List.append_toArray, List.nil_append, List.cons_append]
 gi_wp2
 rw [<- HW1.out]
 refine range_s (gf := 254) (lb := #[.pointer (some ⟨kb, 0, none⟩), .pointer (some ⟨qb, 0, none⟩)]) (xs := zBE M y k) (fp := fp) (V := FitV) rfl (enters_of Tryz.func254 (by kernel_rfl) rfl)
  HIT.out (Below.refl _ _) (by rw [HFP.out]; intro q h; have := HS1.out; have : q < w.heap.size := h; omega)
  (fun Sr pre Z => ColI w (w1.heap.size + 2) Sr pre Z)
  (fun _ _ _ _ => False) ?hI (fun _ _ _ _ _ _ h => h.elim) ?hV ?h0
  (fun v a' Z => ∃ p u1 u2 f0 f1, a' = { tmps := #[.slice none 0 0, f0, .pointer (some ⟨w.heap.size, 0, none⟩), undef, .slice none 0 0, .pointer (some ⟨p, 0, none⟩), f1, v, undef, undef, undef, undef, undef], defers := [] } ∧ v = .agg #[u1, u2] ∧ w1.heap.size + 2 <= p ∧ Z.heap[p]? = some (.cells #[u1, u2] 73 (0, 0))) ?hAx ?hassign ?hbody ?hdone ?hstop
 case hI =>
  intro Sr Sr' s A B hIA h1 h2 h3 h4 hk
  exact hIA.keep h2 h3 (by have := HS1.out; omega) (hk.mono fun k hk => by have := HS1.out; exact ⟨by omega, by omega, hk.2⟩)
 case hV =>
  intro Sr x v A B hv hk
  exact hv.keep hk (fun k hk => ⟨by omega, by omega⟩)
 case h0 =>
  intro Z hk hZ
  have hs1 := HS1.out
  exact ⟨hk.below HB1.out HB1.out.size fun k hk => by omega, hZ, _, (hk.block _ HBX.out.lt (by show _ < _; omega)).trans HBX.out, zCR.nil _ _ _⟩
 case hAx =>
  rintro v a' A B ⟨p, u1, u2, f0, f1, e1, e2, hp, hc⟩ hk
  exact ⟨p, u1, u2, f0, f1, e1, e2, hp, (hk.block p (Array.getElem?_eq_some_iff.1 hc).1 ⟨by omega, by omega⟩).trans hc⟩
 case hassign =>
  rintro l Sr x v Z K hZ ⟨pa, pn, pc, va, vn, vc, rfl, _⟩ hK
  gi_wp2
  refine hK _ _ ((Below.refl _ _).alloc (Nat.le_refl _) _) ⟨Z.heap.size, _, _, _, _, rfl, rfl, hZ, World.alloc_heap_new Z _⟩
 case hbody =>
  rintro l' Sr pre f _ _ Z hpre hSr hI hv ⟨p, u1, u2, f0, f1, rfl, rfl, hp, hpc⟩ hZ hDo hLo
  obtain ⟨v, hvb, hro⟩ := hI.o
  have hFC : FitC Z (fun q => w1.heap.size + 2 <= q ∧ ¬ Sr q) u1 u2 f := hv.fitC fun b h1 h2 h3 => ⟨h1, h3⟩
  have hcnt : pre.length + 1 <= 11264 := by have h1 := HCNT.out; have h2 := hpre.length_le; simp at h2; omega
  obtain ⟨pa, pn, pc, va, vn, vc, e1, e2, _⟩ := id hFC
  subst e1 e2
  have hp0 : Z.cell? ⟨p, 0, none⟩ = some (.slice pa pn pc) := by simp [World.cell?, hpc]
  have hp1 : Z.cell? ⟨p, 1, none⟩ = some (.slice va vn vc) := by simp [World.cell?, hpc]
  have hbc := hvb.cell
  obtain ⟨xs, ho, hg, he⟩ := hro
  obtain ⟨i0, hi0, hz0, hz1, hz2⟩ := info_parts zHN
  have HI := hid hI
  have HVB := hid hvb
  have HO := hid ho
  have HG := hid hg
  have HE := hid he
  have HFC := hid hFC
  have HSR := hid hSr
  have M1 := hid (show pre.length + 1 <= maxLen by unfold maxLen; omega)
  have M2 := hid (show (pre.length + 1) * 48 <= 140737488355328 by omega)
  have M3 := hid (show w1.heap.size + 2 <= (Z.alloc (.cells #[.slice pa pn pc, .slice va vn vc] 73)).heap.size by simp; omega)
  have HZ := hid hZ
  clear hI hvb ho hg he hFC hSr hpre hv hcnt hDo hLo hpc
  gi_wp2_with (gi_at_builtin; go_loud (refine wpListIn_append_own_at _ rfl _ _ 87 rfl (w1.heap.size + 2) 73 i0 (.agg #[.slice none 0 0, .slice none 0 0]) 2 48 Tryz.underlying87 hi0 hz0 hz1 hz2 rfl (by decide) v _ _ rfl (HO.out.alloc _) ⟨Z.heap.size, 0, none⟩ 1 1 [.slice pa pn pc, .slice va vn vc] rfl rfl (newsD Z _ _ _) (by intro u hu; simp at hu; rcases hu with rfl | rfl <;> rfl) M1.out M2.out M3.out ?_; refine Stop.of ?_))
  refine Stop.go ?_
  intro v5 w9 own5 g5 _ hat5
  obtain ⟨a5, c5, rfl⟩ := zAC own5
  have hob : ∀ q, v.ownBlock = some q -> w1.heap.size + 2 <= q ∧ ¬ Sr q := fun q hq => HG.out q hq
  have hs1 := HS1.out
  have hzz := HZ.out
  have hZ1 : Below Z.heap.size Z (Z.alloc (.cells #[.slice pa pn pc, .slice va vn vc] 73)) := (Below.refl _ _).alloc (Nat.le_refl _) _
  have hK9 : Keep (fun q => some q ≠ v.ownBlock) Z w9 := (Keep.of_below hZ1).trans (Keep.grown g5)
  have hS5 : ∀ q, (Value.slice a5 (pre.length + 1) c5).ownBlock = some q -> w1.heap.size + 2 <= q ∧ ¬ Sr q := fun q hq => by
   rcases hat5 with e | e
   ·exact hob q (by rw [<- e]; exact hq)
   ·rw [e] at hq
    cases hq
    exact ⟨by omega, fun hs => by have := (HSR.out _ hs).2; omega⟩
  have hF9 : zCR w9 (w1.heap.size + 2) (fun q => w1.heap.size + 2 <= q ∧ ¬ Sr q) (.slice a5 (pre.length + 1) c5) (pre ++ [f]) := zCR.snoc HO.out HE.out HFC.out hZ1 g5 own5 hS5
  have hbx9 : Boxed w9 w.heap.size 87 v := (hK9.block _ HVB.out.lt (by intro e; have := (hob _ e.symm).1; omega)).trans HVB.out
  have hc9 := hbx9.cell
  have hf9 := hbx9.frozen
  obtain ⟨wA, hwA⟩ := exq (w9.setCell ⟨w.heap.size, 0, none⟩ (.slice a5 (pre.length + 1) c5))
  have kA : Keep (fun q => q ≠ w.heap.size) w9 wA := by rw [hwA]; exact Keep.set w9 _ 0 _
  have nA : Boxed wA w.heap.size 87 (.slice a5 (pre.length + 1) c5) := by rw [hwA]; exact hbx9.set _
  have HA := hid (And.intro nA (And.intro kA (And.intro hF9 hK9)))
  have HWA := hid hwA
  have HOB := hid hob
  clear own5 g5 hat5 hob hK9 hS5 hF9 hbx9 hwA kA nA hs1 hzz hZ1 hi0 hz0 hz1 hz2
  gi_wp2
  rw [<- HWA.out]
  obtain ⟨nA, kA, hF9, hK9⟩ := HA.out
  have hs1 := HS1.out
  have kk : Keep (fun q => q ≠ w.heap.size ∧ some q ≠ v.ownBlock) Z wA := (hK9.mono fun q hq => hq.2).trans (kA.mono fun q hq => hq.1)
  refine ⟨kk.size, fun q hq => ?_, ?_⟩
  ·have hq1 : q < Z.heap.size ∧ q ≠ w.heap.size ∧ some q ≠ v.ownBlock := by
    have hzz := HZ.out
    rcases hq with h | h | h | h
    ·rw [HFP.out] at h
     have h' : q < w.heap.size := h
     exact ⟨by omega, by omega, fun e => by have := (HOB.out _ e.symm).1; omega⟩
    ·exact ⟨by omega, by omega, fun e => by have := (HOB.out _ e.symm).1; omega⟩
    ·exact ⟨by omega, by omega, fun e => by have := (HOB.out _ e.symm).1; omega⟩
    ·have := HSR.out q h
     exact ⟨this.2, by omega, fun e => (HOB.out _ e.symm).2 h⟩
   exact kk.block q hq1.1 hq1.2
  ·refine ⟨kk.below HI.out.b HI.out.b.size fun q hq => ⟨by omega, fun e => by have := (HOB.out _ e.symm).1; omega⟩, Nat.le_trans HZ.out kk.size, _, nA, hF9.keep kA fun q hq _ => ⟨by have := hq.1; omega, hq⟩⟩
 case hdone =>
  intro Sr Z hZ hSr hI hmk
  obtain ⟨v, hvb, hro⟩ := hI.o
  have hcv := hvb.cell
  have HI := hid hI
  have HRO := hid hro
  have HMR := hid hmk
  obtain ⟨va, vc, rfl⟩ := hro.slice
  clear hI hvb hro hmk hSr
  gi_wp2
  have hs1 := HS1.out
  refine zGG [w1.heap.size] Z (by simp) (fun h hh => by rw [List.mem_singleton.1 hh]; exact HMR.out) fun w' hk => ?_
  refine ⟨_, results_tmp rfl _ _ _, hk.below HI.out.b HI.out.b.size (fun k hk hh => by rw [List.mem_singleton.1 hh] at hk; omega), _, w1.heap.size + 2, rfl, by omega, ?_⟩
  exact HRO.out.keep hk (fun q hq _ => ⟨fun hh => by have := hq.1; rw [List.mem_singleton.1 hh] at this; omega, by have := hq.1; omega⟩)
 case hstop =>
  intro Sr c pre Z hpre hSr hI hmk
  exact hI.elim
end
section
open Go.RowKit
theorem zPG (w : World) (k kb qb : Nat) (a a2 : Option Addr) (n cap n2 cap2 : Nat) (M : Mask) (y : List Int) (hn : M.length = n) (hn2 : y.length = n2) (hm : n <= maxLen) (hm2 : n2 <= maxLen) (h1 : 1 <= n) (hW : zAB M <= 10) (hk : k <= 1000)
 (hkb : kb < w.heap.size) (hqb : qb < w.heap.size) (hck : w.cell? ⟨kb, 0, none⟩ = some (.int .i64 k)) (hcq : w.heap[qb]? = some (.cells #[.slice a n cap, .slice a2 n2 cap2] 216 (0, 0))) (H : zAK w a M) (H2 : zAH w a2 y) :
 Calls Tryz.prog 233 #[.func (.func 254) #[] #[.pointer (some ⟨kb, 0, none⟩), .pointer (some ⟨qb, 0, none⟩)]] w fun e w' =>
  Below w.heap.size w w' ∧ ∃ v base, e = .returned v ∧ w.heap.size <= base ∧ zCR w' base (fun q => w.heap.size <= q) v (zBE M y k) := by
 have HA := hid (appendFits_c w k kb qb a a2 n cap n2 cap2 M y hn hn2 hm hm2 h1 hW hk hkb hqb hck hcq H H2)
 clear hn hn2 hm hm2 h1 hW hk hkb hqb hck hcq H H2
 go_enter Tryz.func233, Tryz.ntmps233
 go_wp2_with (go_at_call 253; refine HA.out.mono ?_; rintro e w1 ⟨hb, v, base, rfl, hbs, hf⟩)
 go_ret
 exact ⟨hb, v, base, rfl, hbs, hf⟩
theorem collect2_c (X : World) (q : Nat) (a a2 : Option Addr) (n cap n2 cap2 : Nat) (M : Mask) (y : List Int) (hn : M.length = n) (hn2 : y.length = n2) (hm : n <= maxLen) (hm2 : n2 <= maxLen) (h1 : 1 <= n) (hW : zAB M <= 10) (hk : q <= 1000) (H : zAK X a M) (H2 : zAH X a2 y) (X2 : World) (hX2 : X2 = (X.alloc (.cells #[.slice a n cap, .slice a2 n2 cap2] 216)).alloc (.cells #[.int .i64 (q : Int)] 3)) :
 Calls Tryz.prog 233 #[.func (.func 254) #[] #[.pointer (some ⟨X.heap.size + 1, 0, none⟩), .pointer (some ⟨X.heap.size, 0, none⟩)]] X2 fun e w' =>
  Below X2.heap.size X2 w' ∧ ∃ v base, e = .returned v ∧ X2.heap.size <= base ∧ zCR w' base (fun q => X2.heap.size <= q) v (zBE M y q) := by
 have hb2 : Below X.heap.size X X2 := by rw [hX2]; exact ((Below.refl _ X).alloc (Nat.le_refl _) _).alloc (by simp) _
 have e1 : X2.heap[X.heap.size]? = some (.cells #[.slice a n cap, .slice a2 n2 cap2] 216 (0, 0)) := by
  rw [hX2, Below.heap_alloc _ _ _ (by simp)]; exact World.alloc_heap_new _ _
 have e2 : X2.cell? ⟨X.heap.size + 1, 0, none⟩ = some (.int .i64 (q : Int)) := by
  have := World.alloc_heap_new (X.alloc (.cells #[.slice a n cap, .slice a2 n2 cap2] 216)) (.cells #[.int .i64 (q : Int)] 3)
  rw [World.size_alloc, <- hX2] at this
  simp [World.cell?, this]
 have hs : X2.heap.size = X.heap.size + 2 := by rw [hX2]; simp
 exact zPG X2 q (X.heap.size + 1) X.heap.size a a2 n cap n2 cap2 M y hn hn2 hm hm2 h1 hW hk (by omega) (by omega) e2 e1 (H.below hb2) (H2.below hb2)
theorem sparseFits_c (w : World) (a a2 : Option Addr) (n cap n2 cap2 : Nat) (M : Mask) (y : List Int) (k : Int) (hn : M.length = n) (hn2 : y.length = n2) (hm : n <= maxLen) (hm2 : n2 <= maxLen) (H : zAK w a M) (H2 : zAH w a2 y) :
 Calls Tryz.prog 197 #[.slice a n cap, .slice a2 n2 cap2, .int .i64 k] w fun e w' => Below w.heap.size w w' ∧ ((zGM M y k ≠ 0 ∧ e = .returned (.tuple #[.slice none 0 0, .int .i64 (zGM M y k)])) ∨
  (zGM M y k = 0 ∧ ∃ v base, e = .returned (.tuple #[v, .int .i64 0]) ∧ w.heap.size <= base ∧ zCR w' base (fun q => w.heap.size <= q) v (zBE M y k.toNat))) := by
 have HC := hid (counted_c w a a2 n cap n2 cap2 M y k hn hn2 hm hm2 H H2)
 by_cases h0 : zGM M y k = 0
 ·obtain ⟨hM, hyn, hyB, _⟩ := zHU (show zBB M y [] = 0 by
   unfold zGM at h0; split at h0
   ·assumption
   ·exact h0)
  have hk : inB k 0 10 = true := by
   unfold zGM at h0; split at h0
   ·cases hb : inB k 0 10
    ·rw [hb] at h0; simp at h0
    ·rfl
   ·contradiction
  obtain ⟨hM', h1, h6, hc1, hc10⟩ := zCP hM
  have hkk : ∃ q : Nat, k = (q : Int) ∧ q <= 10 := ⟨k.toNat, by unfold inB at hk; simp at hk; omega, by unfold inB at hk; simp at hk; omega⟩
  obtain ⟨q, rfl, hq10⟩ := hkk
  have HCO := hid (fun (X : World) (hX : Below w.heap.size w X) (X2 : World) => collect2_c X q a a2 n cap n2 cap2 M y hn hn2 hm hm2 (by omega) hc10 (by omega) (H.below hX) (H2.below hX) X2)
  rw [h0] at HC ⊢
  rw [Int.toNat_natCast]
  obtain ⟨F, hF⟩ := exq (zBE M y q)
  rw [<- hF] at HCO ⊢
  clear hn hn2 hm hm2 H H2 h0 hM hyn hyB hk hM' h1 h6 hc1 hc10 hF
  go_enter Tryz.func197, Tryz.ntmps197
  go_wp2_with (go_at_call 232; refine HC.out.mono ?_; rintro e w1 ⟨rfl, hb1⟩; refine Stop.of ?_)
  refine Stop.go ?_
  have HB1 := hid hb1
  clear hb1
  go_wp2_with (go_at_call 234; refine (qfits_c _ _ _ _ _ _ _ _).mono ?_; rintro e w2 ⟨rfl, hw2⟩; have HW2 := hid hw2; clear hw2; refine Stop.of ?_)
  refine Stop.go ?_
  have hco := HCO.out w1 HB1.out w2 HW2.out
  have HC2 := hid hco
  have HB12 := hid (show Below w1.heap.size w1 w2 by rw [HW2.out]; exact ((Below.refl _ w1).alloc (Nat.le_refl _) _).alloc (by simp) _)
  clear hco
  go_wp2_with (go_at_call 233; refine HC2.out.mono ?_; rintro e w3 ⟨hb3, v, base, rfl, hbs, hf⟩)
  go_ret2
  exact ⟨zAA HB1.out (zAA HB12.out hb3), .inr ⟨trivial, v, base, rfl, by have := HB1.out.size; have := HB12.out.size; omega, hf.keep (Keep.refl (fun _ => True) _) fun q hq _ => ⟨trivial, by have := HB1.out.size; have := HB12.out.size; omega⟩⟩⟩
 ·have hne : (zGM M y k != 0) = true := by simpa using h0
  have H0 := hid h0
  obtain ⟨E, hE⟩ := exq (zGM M y k)
  rw [<- hE] at HC hne H0 ⊢
  clear hn hn2 H H2 h0 hE
  go_enter Tryz.func197, Tryz.ntmps197
  go_wp2_with (go_at_call 232; refine HC.out.mono ?_; rintro e w1 ⟨rfl, hb1⟩)
  go_ret2
  exact ⟨hb1, .inl ⟨H0.out, rfl⟩⟩
theorem dfits_c (w : World) (a a2 : Option Addr) (n cap n2 cap2 : Nat) (M : Mask) (y : List Int) (hn : M.length = n) (hn2 : y.length = n2) (hm : n <= maxLen) (hm2 : n2 <= maxLen) (H : zAK w a M) (H2 : zAH w a2 y) (h0 : zBB M y [] = 0) :
 Calls Tryz.prog 135 #[.agg #[.slice a n cap, .slice a2 n2 cap2]] w fun e w' => Below w.heap.size w w' ∧ ∃ v base, e = .returned v ∧ w.heap.size <= base ∧ zCR w' base (fun q => w.heap.size <= q) v (zBE M y 10) := by
 obtain ⟨wz, hwz⟩ := exq (w.alloc (.cells #[.slice a n cap, .slice a2 n2 cap2] 86))
 have hbz : Below w.heap.size w wz := by rw [hwz]; exact (Below.refl _ _).alloc (Nat.le_refl _) _
 have l0 : wz.cell? ⟨w.heap.size, 0, none⟩ = some (.slice a n cap) := by rw [hwz, World.cell?_alloc_at _ _ _ _ rfl]; rfl
 have l1 : wz.cell? ⟨w.heap.size, 1, none⟩ = some (.slice a2 n2 cap2) := by rw [hwz, World.cell?_alloc_at _ _ _ _ rfl]; rfl
 have hc : zGM M y 10 = 0 := by unfold zGM; rw [if_pos h0]; decide
 have HF := hid (sparseFits_c wz a a2 n cap n2 cap2 M y 10 hn hn2 hm hm2 (H.below hbz) (H2.below hbz))
 rw [hc] at HF
 have HBZ := hid hbz
 obtain ⟨F, hF⟩ := exq (zBE M y 10)
 have hF2 : F = zBE M y (10 : Int).toNat := hF
 rw [<- hF]
 rw [<- hF2] at HF
 have HW := hid hwz
 clear hn hn2 hm hm2 H H2 h0 hbz hc hF hF2 hwz
 go_enter Tryz.func135, Tryz.ntmps135
 go_upto_region 1 with fail
 rw [<- HW.out]
 go_wp2_with (go_at_call 197; refine HF.out.mono ?_; rintro e w3 ⟨hb3, ⟨hx, _⟩ | ⟨_, v, base, rfl, hbs, hf⟩⟩; first | exact absurd rfl hx | skip)
 go_ret
 exact ⟨zAA HBZ.out hb3, v, base, rfl, Nat.le_trans HBZ.out.size hbs, hf.keep (Keep.refl (fun _ => True) _) fun q hq _ => ⟨trivial, Nat.le_trans HBZ.out.size hq⟩⟩
end
section
def cmpQ (f g : FitT) : Int := cmpI ((nrmQ f.2).1 * (nrmQ g.2).2) ((nrmQ g.2).1 * (nrmQ f.2).2)
theorem cmpQ_F {f g : FitT} (hf : 0 < (nrmQ f.2).2) (hg : 0 < (nrmQ g.2).2) : cmpQ f g = cmpF (zAS f) (zAS g) := by
 obtain ⟨a, x, y, e1, ha, hy, e2, e3, _⟩ := zEQ (n := (nrmQ f.2).1) hf
 obtain ⟨b, u, v, e4, hb, hv, e5, e6, _⟩ := zEQ (n := (nrmQ g.2).1) hg
 unfold cmpQ zAS
 rw [e1, e4, zPI (by exact hy) (by exact hv), e2, e3, e5, e6]
 simp only []
 have p : 0 < a * b := Int.mul_pos ha hb
 have h1 : x * a * (v * b) = x * v * (a * b) := by grind
 have h2 : u * b * (y * a) = u * y * (a * b) := by grind
 rw [h1, h2]
 unfold cmpI
 have k1 : x * v * (a * b) < u * y * (a * b) ↔ x * v < u * y := ⟨fun h => Int.lt_of_mul_lt_mul_right h (by omega), fun h => Int.mul_lt_mul_of_pos_right h p⟩
 have k2 : u * y * (a * b) < x * v * (a * b) ↔ u * y < x * v := ⟨fun h => Int.lt_of_mul_lt_mul_right h (by omega), fun h => Int.mul_lt_mul_of_pos_right h p⟩
 have k3 : x * v * (a * b) = u * y * (a * b) ↔ x * v = u * y := ⟨fun h => Int.eq_of_mul_eq_mul_right (by omega) h, fun h => by rw [h]⟩
 simp only [k1, k2, k3]
def stepR (out : List FitT) (f : FitT) : List FitT :=
 match out with
 | [] => [f]
 | g :: t => if 0 < cmpQ f g then g :: t else if cmpQ f g < 0 then [f] else insC f (g :: t)
def refC (l : List FitT) : List FitT := l.foldl stepR []
theorem zLR (l : List FitT) (f : FitT) : refC (l ++ [f]) = stepR (refC l) f := by unfold refC; rw [List.foldl_append]; rfl
theorem zNF (l : List FitT) (f : FitT) : zGV (l ++ [f]) = insC f (zGV l) := by unfold zGV; rw [List.foldl_append]; rfl
theorem zEJ : ∀ l : List FitT, (zGV l).Perm l := by
 intro l
 induction hn : l.length generalizing l with
 | zero =>
   have : l = [] := List.length_eq_zero_iff.1 hn
   subst this; exact List.Perm.refl _
 | succ n ih =>
   obtain ⟨m, f, rfl⟩ : ∃ m f, l = m ++ [f] := ⟨l.dropLast, l.getLast (by intro e; rw [e] at hn; simp at hn), (List.dropLast_concat_getLast _).symm⟩
   rw [zNF]
   exact (zFW f _).trans (((ih m (by simpa using hn)).cons f).trans (List.perm_append_singleton f m).symm)
theorem ins_at {f : FitT} {out : List FitT} {at_ : Nat} (ha : AscF out) (hne : ∀ g ∈ out, g.1 ≠ f.1) (hat : at_ <= out.length) (h1 : ∀ g ∈ out.drop at_, zAL f.1 g.1 = true) (h2 : at_ = 0 ∨ ∃ g, out[at_ - 1]? = some g ∧ zAL f.1 g.1 = false) :
 out.take at_ ++ f :: out.drop at_ = insC f out := by
 refine asc_uniq ?_ (zOY ha hne) ?_
 ·unfold AscF at ha ⊢
  have hs : (out.take at_ ++ out.drop at_).Pairwise (fun f g => zAL f.1 g.1 = true) := by rw [List.take_append_drop]; exact ha
  rw [List.pairwise_append] at hs
  rw [List.pairwise_append, List.pairwise_cons]
  refine ⟨hs.1, ⟨h1, hs.2.1⟩, fun x hx y hy => ?_⟩
  rcases List.mem_cons.1 hy with rfl | hy
  ·rcases h2 with rfl | ⟨g, hg, hge⟩
   ·simp at hx
   ·have hgm : g ∈ out := List.mem_of_getElem? hg
    have hgf : zAL g.1 y.1 = true := by
     rcases zDU g.1 y.1 with h | h | h
     ·exact absurd h (hne g hgm)
     ·exact h
     ·rw [hge] at h; cases h
    obtain ⟨i, hi, rfl⟩ := List.mem_iff_getElem.1 hx
    rw [List.getElem_take]
    have hil : i < at_ := by simp at hi; omega
    obtain ⟨hl, hge2⟩ := List.getElem?_eq_some_iff.1 hg
    rcases Nat.lt_or_ge i (at_ - 1) with h | h
    ·have := List.pairwise_iff_getElem.1 ha i (at_ - 1) (by omega) hl h
     rw [hge2] at this
     exact zDL this hgf
    ·have e : i = at_ - 1 := by omega
     subst e; rw [hge2]; exact hgf
  ·exact hs.2.2 x hx y hy
 ·refine List.Perm.trans ?_ (zFW f out).symm
  refine (List.perm_middle).trans ?_
  rw [List.take_append_drop]
theorem refC_eq : ∀ (l : List FitT), (∀ f ∈ l, 0 < (nrmQ f.2).2 ∧ zAM (zAS f) = true) -> (l.map (·.1)).Nodup -> refC l = zGV (zBD l).2 ∧ AscF (refC l) ∧ (∀ g ∈ refC l, g ∈ l) ∧ (∀ g ∈ refC l, zAS g = (zBD l).1) := by
 intro l
 induction hn : l.length generalizing l with
 | zero =>
   intro _ _
   have : l = [] := List.length_eq_zero_iff.1 hn
   subst this
   have e0 : refC [] = [] := rfl
   refine ⟨rfl, List.Pairwise.nil, fun g hg => ?_, fun g hg => ?_⟩ <;> (rw [e0] at hg; cases hg)
 | succ n ih =>
   intro hv hd
   obtain ⟨m, f, rfl⟩ : ∃ m f, l = m ++ [f] := ⟨l.dropLast, l.getLast (by intro e; rw [e] at hn; simp at hn), (List.dropLast_concat_getLast _).symm⟩
   have hd' := hd
   rw [List.map_append, List.nodup_append] at hd'
   obtain ⟨i1, i2, i3, i4⟩ := ih m (by simpa using hn) (fun g hg => hv g (List.mem_append_left _ hg)) hd'.1
   have hvf := hv f (by simp)
   have hvm : ∀ g ∈ m ++ [f], zAM (zAS g) = true := fun g hg => (hv g hg).2
   obtain ⟨k1, k2⟩ := zEK (m ++ [f]) hvm
   have hne : ∀ g ∈ refC m, g.1 ≠ f.1 := fun g hg e => hd'.2.2 g.1 (List.mem_map.2 ⟨g, i3 g hg, rfl⟩) f.1 (by simp) e
   have main : refC (m ++ [f]) = zGV (zBD (m ++ [f])).2 := by
    rw [zLR, zHJ]
    unfold zOJ
    cases hr : refC m with
    | nil =>
      have he : (zBD m).2 = [] := by
       have hp := zEJ (zBD m).2
       rw [<- i1, hr] at hp
       exact List.Perm.eq_nil hp.symm
      rw [if_pos (.inl he)]
      rfl
    | cons g t =>
      have hgm : g ∈ refC m := by rw [hr]; simp
      have hgv := hv g (List.mem_append_left _ (i3 g hgm))
      have hge := i4 g hgm
      have hs0 : (zBD m).2 ≠ [] := by
       intro e
       rw [i1, e] at hr
       exact absurd hr (by simp [zGV])
      rw [<- hge, <- cmpQ_F hvf.1 hgv.1]
      show (if 0 < cmpQ f g then g :: t else if cmpQ f g < 0 then [f] else insC f (g :: t)) = _
      by_cases c1 : 0 < cmpQ f g
      ·rw [if_pos c1, if_neg (by intro h; rcases h with h | h; exact hs0 h; omega), if_neg (by omega), <- i1, hr]
      ·rw [if_neg c1]
       by_cases c2 : cmpQ f g < 0
       ·rw [if_pos c2, if_pos (.inr c2)]; rfl
       ·rw [if_neg c2, if_neg (by intro h; rcases h with h | h; exact hs0 h; exact c2 h), if_pos (by omega), zNF, <- i1, hr]
   have hmem : ∀ g ∈ refC (m ++ [f]), g ∈ (zBD (m ++ [f])).2 := fun g hg => by rw [main] at hg; exact (zEJ _).mem_iff.1 hg
   obtain ⟨_, _, _, k3⟩ := k2 (by simp)
   refine ⟨main, ?_, fun g hg => ?_, fun g hg => ?_⟩
   ·rw [main]
    refine (zHI ?_).1
    rw [k3]
    exact (List.filter_sublist.map _).nodup hd
   ·have := hmem g hg
    rw [k3] at this
    exact (List.mem_filter.1 this).1
   ·have := hmem g hg
    rw [k3] at this
    simpa using (List.mem_filter.1 this).2
end
end Go.Proofs.YtlffndehhhpgjaaGreat

/- Plain algebra: the kernel's vectors made step by step, and their bounds. -/
import Derived.Test.YtfipebkhomppmaaLinO
namespace Go.Proofs.Ytfipebkhomppmaa
set_option linter.unusedVariables false

theorem timesP_snoc (R : List (List Int)) (f p : Nat) : ∀ (J : List Nat) (k : Nat) (t : Int), timesP R f (J ++ [p]) k t =
    timesP R f J k t * (nP (vec (R[k + J.length]?.getD []) p) (vec (R[k + J.length]?.getD []) f)).tdiv (Int.gcd (timesP R f J k t) (nP (vec (R[k + J.length]?.getD []) p) (vec (R[k + J.length]?.getD []) f)) : Nat)
  | [], k, t => rfl
  | q :: J, k, t => by
    show timesP R f (J ++ [p]) (k + 1) _ = _
    rw [timesP_snoc R f p J (k + 1), show k + 1 + J.length = k + (q :: J).length by simp; omega]
    rfl
theorem fillF_snoc (v : Nat → Nat → Int) (p : Nat) : ∀ (J : List Nat) (k : Nat) (h : List Int), fillF v (J ++ [p]) k h = (fillF v J k h).set p (v (k + J.length) p)
  | [], k, h => rfl
  | q :: J, k, h => by
    show fillF v (J ++ [p]) (k + 1) _ = _
    rw [fillF_snoc v p J (k + 1), show k + 1 + J.length = k + (q :: J).length by simp; omega]
    rfl

/-- the kernel's vectors for the first columns -/
def kernTo (R : List (List Int)) (J : List Nat) (n t : Nat) : List (List Int) := ((List.range t).filter (fun f => !J.contains f)).map (kerP R J n)
theorem kernTo_succ_in {R : List (List Int)} {J : List Nat} {n t : Nat} (h : t ∈ J) : kernTo R J n (t + 1) = kernTo R J n t := by
  unfold kernTo; rw [List.range_succ, List.filter_append]; simp [h]
theorem kernTo_succ_out {R : List (List Int)} {J : List Nat} {n t : Nat} (h : t ∉ J) : kernTo R J n (t + 1) = kernTo R J n t ++ [kerP R J n t] := by
  unfold kernTo; rw [List.range_succ, List.filter_append]; simp [h]
theorem kernTo_all (R : List (List Int)) (J : List Nat) (n : Nat) : kernTo R J n n = kernP R J n := rfl
theorem kernTo_le (R : List (List Int)) (J : List Nat) (n t : Nat) : (kernTo R J n t).length ≤ t := by
  unfold kernTo; rw [List.length_map]
  have := List.length_filter_le (fun f => !J.contains f) (List.range t)
  rwa [List.length_range] at this

/-- what the walk needs at column f -/
theorem MaskOk.times {M : List (List Int)} {n : Nat} (h : MaskOk M n) (f : Nat) {t : Nat} (ht : t ≤ (JP M n).length) :
    0 < timesP (RP M n) f ((JP M n).take t) 0 1 ∧ timesP (RP M n) f ((JP M n).take t) 0 1 ≤ 720 := by
  obtain ⟨d, d1, d2, hk⟩ := pRed_ok (n := n) h.wid h.le6 (fun r hr c _ => h.one r hr c)
  obtain ⟨a, b, _, _⟩ := timesP_facts (R := RP M n) (f := f) (d := d) ((JP M n).take t) 0 1 (by decide) (Int.one_dvd _) (fun i hi => by
    rw [List.length_take] at hi
    have h1 : i < (JP M n).length := by omega
    have := hk.piv i h1
    rw [Nat.zero_add]
    have e : jf ((JP M n).take t) i = jf (JP M n) i := by unfold jf; rw [List.getElem?_take_of_lt (by omega)]
    rw [e]; exact this)
  have h9 := Int.le_of_dvd (by omega) b
  exact ⟨a, by omega⟩
theorem MaskOk.pivx {M : List (List Int)} {n : Nat} (h : MaskOk M n) {i : Nat} (hi : i < (JP M n).length) : 0 < vec ((RP M n)[i]?.getD []) ((JP M n)[i]) ∧ vec ((RP M n)[i]?.getD []) ((JP M n)[i]) ≤ 720 ∧ (JP M n)[i] < n := by
  have h1 : 0 < rowv (RP M n) i (jf (JP M n) i) := ((h.inv n).pp i hi).2
  have e : jf (JP M n) i = (JP M n)[i] := by unfold jf; rw [List.getElem?_eq_getElem hi]; rfl
  rw [e] at h1
  exact ⟨h1, (h.rp_le i _).2, (h.inv n).lt _ (List.getElem_mem hi)⟩
theorem nP_le {x e : Int} (h0 : 0 < x) (h : x ≤ 720) : 0 < nP x e ∧ nP x e ≤ 720 := by
  obtain ⟨a, b, _⟩ := nP_facts (e := e) h0 (Int.dvd_refl x)
  have := Int.le_of_dvd h0 b
  exact ⟨a, by omega⟩

theorem MaskOk.raw_le {M : List (List Int)} {n : Nat} (h : MaskOk M n) {f : Nat} (hf : f < n) (hfJ : f ∉ JP M n) (c : Nat) : (vec (rawP (RP M n) (JP M n) n f) c).natAbs ≤ 518400 := by
  obtain ⟨t, ht, ht2, h1, h2, h3⟩ := h.raw hf hfJ
  by_cases hc : c ∈ JP M n
  · obtain ⟨i, hi, rfl⟩ := mem_jf hc
    have e := h3 i hi
    have hp : 0 < rowv (RP M n) i (jf (JP M n) i) := ((h.inv n).pp i hi).2
    have hb := h.rp_le i f
    have e2 := congrArg Int.natAbs e
    rw [Int.natAbs_mul, Int.natAbs_mul, Int.natAbs_neg] at e2
    have h5 : (vec (rawP (RP M n) (JP M n) n f) (jf (JP M n) i)).natAbs ≤ (rowv (RP M n) i f).natAbs * t.natAbs := by
      rw [← e2]; exact Nat.le_mul_of_pos_right _ (by omega)
    refine Nat.le_trans h5 ?_
    show _ ≤ 720 * 720
    exact Nat.mul_le_mul (by unfold rowv; omega) (by omega)
  · by_cases e : c = f
    · subst e; rw [h1]; omega
    · rw [h2 c hc e]; simp
theorem rawP_len (R : List (List Int)) (J : List Nat) (n f : Nat) : (rawP R J n f).length = n := by unfold rawP; rw [fillF_len]; simp
theorem kerP_len (R : List (List Int)) (J : List Nat) (n f : Nat) : (kerP R J n f).length = n := by unfold kerP; rw [shortF_len, rawP_len]

/-- what Reduce needs -/
theorem MaskOk.bnd {M : List (List Int)} {n : Nat} (h : MaskOk M n) {t : Nat} (ht : t ≤ n) : ∀ r ∈ (pRed M t).1, r.length = n ∧ ∀ x ∈ r, -(720 : Int) ≤ x ∧ x ≤ 720 := by
  have := pRed_le (n := n) (Y := 1) h.wid h.le6 (fun r hr c _ => h.one r hr c) (fun r hr => mem_vec (P := fun x => -((1 : Nat) : Int) ≤ x ∧ x ≤ ((1 : Nat) : Int)) fun c => by have := h.one r hr c; omega) ht
  intro r hr
  obtain ⟨h1, h2⟩ := this r hr
  exact ⟨h1, fun x hx => by have := h2 x hx; omega⟩
end Go.Proofs.Ytfipebkhomppmaa

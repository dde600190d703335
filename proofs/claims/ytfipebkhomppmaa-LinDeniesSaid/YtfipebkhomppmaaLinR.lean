/- Plain: what the walk of the reference's kernel needs. -/
import Derived.Test.YtfipebkhomppmaaLinP
namespace Go.Proofs.Ytfipebkhomppmaa
set_option linter.unusedVariables false

theorem timesR_snoc (R : List (List Int)) (p : Nat) : ∀ (J : List Nat) (k : Nat) (t : Int), timesR R (J ++ [p]) k t =
    (timesR R J k t).tdiv (Int.gcd (timesR R J k t) (vec (R[k + J.length]?.getD []) p) : Nat) * vec (R[k + J.length]?.getD []) p
  | [], k, t => rfl
  | q :: J, k, t => by
    show timesR R (J ++ [p]) (k + 1) _ = _
    rw [timesR_snoc R p J (k + 1), show k + 1 + J.length = k + (q :: J).length by simp; omega]
    rfl
/-- the kernel's vectors for the first columns -/
def kernRTo (R : List (List Int)) (J : List Nat) (n t : Nat) : List (List Int) := ((List.range t).filter (fun f => !J.contains f)).map (kerR R J n)
theorem kernRTo_in {R : List (List Int)} {J : List Nat} {n t : Nat} (h : J.contains t = true) : kernRTo R J n (t + 1) = kernRTo R J n t := by
  unfold kernRTo; rw [List.range_succ, List.filter_append]; simp at h; simp [h]
theorem kernRTo_out {R : List (List Int)} {J : List Nat} {n t : Nat} (h : J.contains t = false) : kernRTo R J n (t + 1) = kernRTo R J n t ++ [kerR R J n t] := by
  unfold kernRTo; rw [List.range_succ, List.filter_append]; simp at h; simp [h]
theorem kernRTo_all (R : List (List Int)) (J : List Nat) (n : Nat) : kernRTo R J n n = kernR R J n := rfl
theorem kernRTo_le (R : List (List Int)) (J : List Nat) (n t : Nat) : (kernRTo R J n t).length ≤ t := by
  unfold kernRTo; rw [List.length_map]
  have := List.length_filter_le (fun f => !J.contains f) (List.range t)
  rwa [List.length_range] at this
theorem rawR_len (R : List (List Int)) (J : List Nat) (n f : Nat) : (rawR R J n f).length = n := by unfold rawR; rw [fillF_len]; simp
theorem kerR_len (R : List (List Int)) (J : List Nat) (n f : Nat) : (kerR R J n f).length = n := by unfold kerR; rw [primF_eq, shortF_len, rawR_len]
theorem fillF_all {P : Int → Prop} {v : Nat → Nat → Int} (hv : ∀ k p, P (v k p)) : ∀ (J : List Nat) (k : Nat) (h : List Int), (∀ x ∈ h, P x) → ∀ x ∈ fillF v J k h, P x
  | [], _, h, hh, x, hx => hh x hx
  | p :: J, k, h, hh, x, hx => fillF_all hv J (k + 1) _ (fun y hy => by
      rcases List.mem_or_eq_of_mem_set hy with h1 | rfl
      · exact hh y h1
      · exact hv _ _) x hx

/-- the rows of the reference's reduction, as the kernel meets them -/
structure RefK (R : List (List Int)) (J : List Nat) (n : Nat) : Prop where
  len : R.length = J.length
  le6 : J.length ≤ 6
  wid : ∀ r ∈ R, r.length = n
  bnd : ∀ i c : Nat, -720 ≤ vec (R[i]?.getD []) c ∧ vec (R[i]?.getD []) c ≤ 720
  pv : ∀ (i : Nat) (hi : i < J.length), 0 < vec (R[i]?.getD []) J[i] ∧ J[i] < n
  times : ∀ t : Nat, t ≤ J.length → 0 < timesR R (J.take t) 0 1 ∧ timesR R (J.take t) 0 1 ≤ 720
theorem refK {C : List (List Int)} {n : Nat} (h : MaskOk C n) : RefK (rRed C n).done (rRed C n).piv n ∧ kernP (RP C n) (JP C n) n = kernR (rRed C n).done (rRed C n).piv n := by
  have hone : ∀ r ∈ C, ∀ c, c < n → -1 ≤ vec r c ∧ vec r c ≤ 1 := fun r hr c _ => h.one r hr c
  obtain ⟨d, d1, d2, hk⟩ := pRed_ok (n := n) h.wid h.le6 hone
  obtain ⟨e1, e2⟩ := red_same h.wid hone (Nat.le_refl n) (fun q _ _ c h1 h2 => by omega)
  have hKl : (JP C n).length ≤ (RP C n).length := by rw [pRed_len]; exact (h.inv n).K_le
  refine ⟨?_, kernel_same h.wid h.le6 hone⟩
  rw [e2, ← e1]
  have hget : ∀ i, i < (JP C n).length → ((RP C n).take (JP C n).length)[i]?.getD [] = (RP C n)[i]?.getD [] := fun i hi => by rw [List.getElem?_take_of_lt hi]
  have hpiv : ∀ i, i < (JP C n).length → 0 < vec (((RP C n).take (JP C n).length)[i]?.getD []) (jf (JP C n) i) ∧ vec (((RP C n).take (JP C n).length)[i]?.getD []) (jf (JP C n) i) ∣ (d : Int) := fun i hi => by
    rw [hget i hi]; exact hk.piv i hi
  refine ⟨by rw [List.length_take]; exact Nat.min_eq_left hKl, Nat.le_trans (h.inv n).K_le h.le6, fun r hr => (h.bnd (Nat.le_refl n) r (List.mem_of_mem_take hr)).1, fun i c => ?_, fun i hi => ?_, fun t ht => ?_⟩
  · rcases Nat.lt_or_ge i (JP C n).length with hi | hi
    · rw [hget i hi]; exact h.rp_le i c
    · rw [List.getElem?_eq_none (by rw [List.length_take]; exact Nat.le_trans (Nat.min_le_left _ _) hi)]; simp [vec]
  · have := h.pivx hi
    rw [hget i hi]
    exact ⟨this.1, this.2.2⟩
  · obtain ⟨a, b, _, _⟩ := timesR_facts (R := (RP C n).take (JP C n).length) (d := d) ((JP C n).take t) 0 1 (by decide) (Int.one_dvd _) (fun i hi => by
      rw [List.length_take] at hi
      have h1 : i < (JP C n).length := by omega
      have := hpiv i h1
      rw [Nat.zero_add]
      have e : jf ((JP C n).take t) i = jf (JP C n) i := by unfold jf; rw [List.getElem?_take_of_lt (by omega)]
      rw [e]; exact this)
    have h9 := Int.le_of_dvd (by omega) b
    exact ⟨a, Int.le_trans h9 (by omega)⟩
theorem valR_le {R : List (List Int)} {J : List Nat} {n : Nat} (h : RefK R J n) {f : Nat} {t : Int} (h0 : 0 < t) (h1 : t ≤ 720) (k p : Nat) : -518400 ≤ valR R f t k p ∧ valR R f t k p ≤ 518400 := by
  unfold valR
  have h2 := h.bnd k f
  have h3 : (t.tdiv (vec (R[k]?.getD []) p)).natAbs ≤ 720 := by
    rw [Int.natAbs_tdiv]
    exact Nat.le_trans (Nat.div_le_self _ _) (by omega)
  have h4 : (-(vec (R[k]?.getD []) f) * t.tdiv (vec (R[k]?.getD []) p)).natAbs ≤ 720 * 720 := by
    rw [Int.natAbs_mul]
    exact Nat.mul_le_mul (by omega) h3
  omega
theorem rawR_le {R : List (List Int)} {J : List Nat} {n : Nat} (h : RefK R J n) (f : Nat) : ∀ x ∈ rawR R J n f, -518400 ≤ x ∧ x ≤ 518400 := by
  obtain ⟨h0, h1⟩ := h.times J.length (Nat.le_refl _)
  rw [List.take_length] at h0 h1
  refine fillF_all (P := fun x => -518400 ≤ x ∧ x ≤ 518400) (fun k p => valR_le h h0 h1 k p) J 0 _ fun x hx => ?_
  rcases List.mem_or_eq_of_mem_set hx with h2 | rfl
  · rw [(List.mem_replicate.1 h2).2]; decide
  · omega
/-- what Reduced needs -/
theorem refB {C : List (List Int)} {n : Nat} (h : MaskOk C n) : ∀ t, t ≤ n → ∀ r ∈ (rRed C t).done ++ (rRed C t).left, r.length = n ∧ ∀ x ∈ r, -(720 : Int) ≤ x ∧ x ≤ 720 := by
  intro t ht
  have := rRed_le (n := n) (Y := 1) h.wid h.le6 (fun r hr c _ => h.one r hr c) (fun r hr => mem_vec (P := fun x => -((1 : Nat) : Int) ≤ x ∧ x ≤ ((1 : Nat) : Int)) fun c => by have := h.one r hr c; omega) ht
  intro r hr
  obtain ⟨h1, h2⟩ := this r hr
  exact ⟨h1, fun x hx => by have := h2 x hx; omega⟩
theorem ref_lens {C : List (List Int)} {n : Nat} (h : ∀ r ∈ C, r.length = n) (t : Nat) : (rRed C t).done.length + (rRed C t).left.length = C.length ∧ (rRed C t).piv.length = (rRed C t).done.length :=
  ⟨rRed_len C h t, (rRed_inv C h t).2.symm⟩
end Go.Proofs.Ytfipebkhomppmaa

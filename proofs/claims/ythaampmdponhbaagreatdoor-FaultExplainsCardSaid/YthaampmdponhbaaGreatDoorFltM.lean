/- Plain lists: the classes of faults by pictures, and that the pictures with a single 1 part all. No program in sight. -/
import Derived.Test.YthaampmdponhbaaGreatDoorFltL
namespace Go.Proofs.YthaampmdponhbaaGreatDoor
open Go.RowKit Go.Shelf
set_option linter.unusedVariables false

theorem sameR_refl (M : Mask) (L : List (List Int)) (f : Flt) : sameR M L f f = true := by simp [sameR]
theorem sameR_iff (M : Mask) (L : List (List Int)) (f g : Flt) : sameR M L f g = true ↔ ∀ x ∈ L, readF M f x = readF M g x := by simp [sameR]
theorem sameR_symm {M : Mask} {L : List (List Int)} {f g : Flt} (h : sameR M L f g = true) : sameR M L g f = true := by
  rw [sameR_iff] at h ⊢; exact fun x hx => (h x hx).symm
theorem sameR_trans {M : Mask} {L : List (List Int)} {f g k : Flt} (h : sameR M L f g = true) (h2 : sameR M L g k = true) : sameR M L f k = true := by
  rw [sameR_iff] at h h2 ⊢; exact fun x hx => (h x hx).trans (h2 x hx)

/-- the index of the first fault that pictures do not part from one -/
def idxR (M : Mask) (L : List (List Int)) (A : List Flt) (f : Flt) : Nat := A.findIdx (fun g => sameR M L f g)
/-- for each fault the first one from which pictures do not part it -/
def classF (M : Mask) (L : List (List Int)) : List Int := (allF M).map (fun f => (idxR M L (allF M) f : Int))
theorem classF_length (M : Mask) (L : List (List Int)) : (classF M L).length = (allF M).length := by simp [classF]
theorem idxR_take {M : Mask} {L : List (List Int)} {A : List Flt} {k : Nat} (hk : k < A.length) : idxR M L (A.take (k + 1)) A[k] = idxR M L A A[k] := by
  unfold idxR
  obtain ⟨f, hf⟩ : ∃ f, f = A[k] := ⟨_, rfl⟩
  rw [← hf]
  have h : (A.take (k + 1)).findIdx (fun g => sameR M L f g) < (A.take (k + 1)).length := by
    rw [List.findIdx_lt_length]
    exact ⟨f, by rw [List.mem_take_iff_getElem]; exact ⟨k, by omega, hf.symm⟩, sameR_refl _ _ _⟩
  conv => rhs; rw [← List.take_append_drop (k + 1) A]
  rw [List.findIdx_append]
  rw [if_pos h]
theorem idxR_le {M : Mask} {L : List (List Int)} {A : List Flt} {k : Nat} (hk : k < A.length) : idxR M L A A[k] ≤ k := by
  rw [← idxR_take hk]
  have h : idxR M L (A.take (k + 1)) A[k] < (A.take (k + 1)).length := by
    unfold idxR
    rw [List.findIdx_lt_length]
    exact ⟨A[k], by rw [List.mem_take_iff_getElem]; exact ⟨k, by omega, rfl⟩, sameR_refl _ _ _⟩
  rw [List.length_take] at h; omega
theorem idxR_same {M : Mask} {L : List (List Int)} {A : List Flt} {k : Nat} (hk : k < A.length) (h : idxR M L A A[k] < A.length) : sameR M L A[k] A[idxR M L A A[k]] = true :=
  List.findIdx_getElem (p := fun g => sameR M L A[k] g) (xs := A) (w := h)
theorem idxR_eq {M : Mask} {L : List (List Int)} {A : List Flt} {f : Flt} {k : Nat} (hk : k < A.length) (h : sameR M L f A[k] = true) (hno : ∀ i (hi : i < k), sameR M L f A[i] = false) : idxR M L A f = k := by
  unfold idxR
  rw [List.findIdx_eq hk]
  exact ⟨h, fun j hj => by rw [hno j hj]⟩
theorem idxR_congr {M : Mask} {L : List (List Int)} {A : List Flt} {f g : Flt} (h : sameR M L f g = true) : idxR M L A f = idxR M L A g := by
  unfold idxR
  congr 1
  funext k
  rw [Bool.eq_iff_iff]
  exact ⟨fun h2 => sameR_trans (sameR_symm h) h2, fun h2 => sameR_trans h h2⟩
/-- two faults are in one class exactly if no picture parts them -/
theorem idxR_iff {M : Mask} {L : List (List Int)} {A : List Flt} {u v : Nat} (hu : u < A.length) (hv : v < A.length) : idxR M L A A[u] = idxR M L A A[v] ↔ sameR M L A[u] A[v] = true := by
  constructor
  · intro h
    have h1 := idxR_le (M := M) (L := L) hu
    have h2 := idxR_le (M := M) (L := L) hv
    have e1 := idxR_same (M := M) (L := L) hu (by omega)
    have e2 := idxR_same (M := M) (L := L) hv (by omega)
    have h3 : A[idxR M L A A[u]]'(by omega) = A[idxR M L A A[v]]'(by omega) := by simp only [h]
    rw [h3] at e1
    exact sameR_trans e1 (sameR_symm e2)
  · exact idxR_congr

/-- pictures part all faults -/
def enoughF (M : Mask) (L : List (List Int)) : Bool := decide (∀ i, i < (allF M).length → (classF M L)[i]? = some (i : Int))
def unitL (c j : Nat) : List Int := (List.replicate c 0).set j 1
/-- the pictures with a single 1 -/
def unitsL (c : Nat) : List (List Int) := (List.range c).map (unitL c)
theorem unitL_at (c j k : Nat) (hk : k < c) : (unitL c j)[k]?.getD 0 = if k = j then 1 else 0 := by
  unfold unitL
  rw [List.getElem?_set]
  by_cases e : j = k
  · subst e; simp [hk]
  · rw [if_neg e, if_neg (Ne.symm e), List.getElem?_replicate, if_pos hk]; rfl
theorem dot_unit (r : List Int) (c j : Nat) (hr : ∀ n ∈ r, -1 ≤ n ∧ n ≤ 1) (hc : r.length ≤ c) : ∀ k, k ≤ r.length → dotTo r (unitL c j) k = if j < k then r[j]?.getD 0 else 0
  | 0, _ => rfl
  | k + 1, h => by
    have hb := hr r[k] (List.getElem_mem (by omega))
    have hg : r[k]?.getD 0 = r[k] := by rw [List.getElem?_eq_getElem (by omega)]; rfl
    unfold dotTo
    rw [dot_unit r c j hr hc k (by omega), unitL_at c j k (by omega), hg]
    by_cases e : k = j
    · subst e
      rw [if_neg (by omega), if_pos rfl, if_pos (by omega), hg]
      unfold wrap64; omega
    · rw [if_neg e]
      have e2 : (j < k + 1) = (j < k) := by simp; omega
      simp only [e2]
      split
      · rename_i hjk
        have hb2 := hr r[j] (List.getElem_mem (by omega))
        rw [List.getElem?_eq_getElem (by omega)]
        simp only [Option.getD_some, Int.mul_zero]
        unfold wrap64; omega
      · simp only [Int.mul_zero]; unfold wrap64; omega
theorem dotW_unit (r : List Int) (c j : Nat) (hr : ∀ n ∈ r, -1 ≤ n ∧ n ≤ 1) (hc : r.length = c) (hj : j < c) : dotW r (unitL c j) = r[j]'(by omega) := by
  unfold dotW
  rw [dot_unit r c j hr (by omega) _ (Nat.le_refl _), if_pos (by omega), List.getElem?_eq_getElem (by omega)]; rfl

/-- masks that read all units alike are equal -/
theorem mask_of_units {A B : Mask} {c : Nat} (ha : ∀ r ∈ A, r.length = c ∧ ∀ n ∈ r, -1 ≤ n ∧ n ≤ 1) (hb : ∀ r ∈ B, r.length = c ∧ ∀ n ∈ r, -1 ≤ n ∧ n ≤ 1) (hl : A.length = B.length)
    (h : ∀ j, j < c → readM A (unitL c j) = readM B (unitL c j)) : A = B := by
  apply List.ext_getElem hl
  intro i h1 h2
  obtain ⟨la, na⟩ := ha A[i] (List.getElem_mem h1)
  obtain ⟨lb, nb⟩ := hb B[i] (List.getElem_mem h2)
  apply List.ext_getElem (by omega)
  intro j g1 g2
  have := h j (by omega)
  unfold readM at this
  have h3 : (A.map (fun r => dotW r (unitL c j)))[i]? = (B.map (fun r => dotW r (unitL c j)))[i]? := by rw [this]
  rw [List.getElem?_map, List.getElem?_map, List.getElem?_eq_getElem h1, List.getElem?_eq_getElem h2] at h3
  simp only [Option.map_some, Option.some.injEq] at h3
  rw [dotW_unit _ c j na la (by omega), dotW_unit _ c j nb lb (by omega)] at h3
  exact h3

theorem units_part {M : Mask} (hM : okM M = true) {f g : Flt} (hf : okF M f = true) (hg : okF M g = true) (h : sameR M (unitsL (colsM M)) f g = true) : faultyM M f = faultyM M g := by
  refine mask_of_units (faultyM_cols hM hf) (faultyM_cols hM hg) (by rw [faultyM_row, faultyM_row]) fun j hj => ?_
  rw [sameR_iff] at h
  exact h (unitL (colsM M) j) (List.mem_map.2 ⟨j, List.mem_range.2 hj, rfl⟩)

theorem enough_iff (M : Mask) (L : List (List Int)) : enoughF M L = true ↔ ∀ i (hi : i < (allF M).length), idxR M L (allF M) (allF M)[i] = i := by
  unfold enoughF classF
  rw [decide_eq_true_iff]
  constructor
  · intro h i hi
    have := h i hi
    rw [List.getElem?_map, List.getElem?_eq_getElem hi] at this
    have h2 : (idxR M L (allF M) (allF M)[i] : Int) = (i : Int) := Option.some.inj this
    omega
  · intro h i hi
    rw [List.getElem?_map, List.getElem?_eq_getElem hi]
    simp [h i hi]

theorem units_enough {M : Mask} (hM : okM M = true) : enoughF M (unitsL (colsM M)) = true := by
  rw [enough_iff]
  intro i hi
  refine idxR_eq hi (sameR_refl _ _ _) fun k hk => ?_
  cases h : sameR M (unitsL (colsM M)) (allF M)[i] (allF M)[k]
  · rfl
  · exfalso
    have h1 := units_part hM (all_ok (List.getElem_mem hi)) (all_ok (List.getElem_mem (by omega))) h
    have h2 := List.pairwise_iff_getElem.1 (allTo_apart M (everyF M)) k i (by exact Nat.lt_trans hk hi) hi hk
    exact h2 h1.symm
end Go.Proofs.YthaampmdponhbaaGreatDoor

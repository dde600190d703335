/- The plain law of clashes. -/
import Derived.Test.YtdcflpfaaeijoaaBitAS
namespace Go.Proofs.Ytdcflpfaaeijoaa
set_option linter.unusedVariables false

/-- the cells of a set but one -/
def someL (l : List Cel) (t : List Nat) (skip : Int) : Nat → List Cel
  | 0 => []
  | k + 1 => if (k : Int) = skip then someL l t skip k else someL l t skip k ++ [cellAt l (t[k]?.getD 0)]
theorem someL_len (l : List Cel) (t : List Nat) (skip : Int) : ∀ k, (someL l t skip k).length ≤ k
  | 0 => Nat.le_refl _
  | k + 1 => by
    have := someL_len l t skip k
    unfold someL; split
    · omega
    · rw [List.length_append]; simp; omega
theorem someL_mem (l : List Cel) (t : List Nat) (skip : Int) (c : Cel) : ∀ k, c ∈ someL l t skip k ↔ ∃ i, i < k ∧ (i : Int) ≠ skip ∧ c = cellAt l (t[i]?.getD 0)
  | 0 => by simp [someL]
  | k + 1 => by
    have ih := someL_mem l t skip c k
    unfold someL
    by_cases e : (k : Int) = skip
    · rw [if_pos e, ih]
      constructor
      · rintro ⟨i, h1, h2, h3⟩; exact ⟨i, by omega, h2, h3⟩
      · rintro ⟨i, h1, h2, h3⟩
        refine ⟨i, ?_, h2, h3⟩
        rcases Nat.lt_or_ge i k with h | h
        · exact h
        · obtain rfl : i = k := by omega
          exact absurd e h2
    · rw [if_neg e, List.mem_append, ih]
      constructor
      · rintro (⟨i, h1, h2, h3⟩ | h)
        · exact ⟨i, by omega, h2, h3⟩
        · exact ⟨k, by omega, e, by simpa using h⟩
      · rintro ⟨i, h1, h2, h3⟩
        rcases Nat.lt_or_ge i k with h | h
        · exact .inl ⟨i, h, h2, h3⟩
        · obtain rfl : i = k := by omega
          right; simp [h3]

theorem okCells_sub {p t : Int} {l m : List Cel} (h : okCells p t l = true) (hl : m.length ≤ 30) (hm : ∀ c ∈ m, c ∈ l) : okCells p t m = true := by
  simp only [okCells, Bool.and_eq_true, decide_eq_true_eq] at h ⊢
  refine ⟨⟨h.1.1, hl⟩, ?_⟩
  rw [List.all_eq_true] at h ⊢
  exact fun c hc => h.2 c (hm c hc)

theorem cellAt_mem {l : List Cel} {i : Nat} (hi : i < l.length) : cellAt l i ∈ l := by
  unfold cellAt; rw [List.getElem?_eq_getElem hi]; exact List.getElem_mem hi

theorem Inc_weak {n : Nat} : ∀ {f g : Nat} {t : List Nat}, Inc n f t → g ≤ f → Inc n g t
  | _, _, [], _, _ => trivial
  | f, g, i :: t, h, hg => ⟨by have := h.1; omega, h.2.1, h.2.2⟩
theorem Inc_erase {n : Nat} : ∀ (f : Nat) (t : List Nat) (j : Nat), Inc n f t → Inc n f (t.eraseIdx j)
  | _, [], j, _ => by simp [Inc]
  | f, i :: t, 0, h => Inc_weak h.2.2 (by have := h.1; omega)
  | f, i :: t, j + 1, h => ⟨h.1, h.2.1, Inc_erase (i + 1) t j h.2.2⟩

/-- the idle cells -/
theorem idle_law {p t : Int} {l : List Cel} (h : cellsE p t l = 0) (k : Nat) (hk : k < (idleV p t l).length) : ∃ i, i < l.length ∧ (idleV p t l)[k]?.getD 0 = (i : Int) ∧ cellsE p t (l.eraseIdx i) = 0 ∧ countV p t (l.eraseIdx i) = countV p t l := by
  have hok : okCells p t l = true := by
    unfold cellsE at h; split at h
    · assumption
    · omega
  have hv : idleV p t l = (idleN p.toNat t.toNat l).map (fun i : Nat => (i : Int)) := by rw [idleV, if_pos hok]
  rw [hv] at hk ⊢
  rw [List.length_map] at hk
  have hm := List.getElem_mem hk
  obtain ⟨h1, h2⟩ := List.mem_filter.1 hm
  refine ⟨(idleN p.toNat t.toNat l)[k], List.mem_range.1 h1, by rw [List.getElem?_map, List.getElem?_eq_getElem hk]; rfl, ?_, ?_⟩
  · rw [cellsE, if_pos]
    refine okCells_sub hok ?_ (fun c hc => List.mem_of_mem_eraseIdx hc)
    have h30 : l.length ≤ 30 := by
      simp only [okCells, Bool.and_eq_true, decide_eq_true_eq] at hok
      omega
    exact Nat.le_trans (List.length_eraseIdx_le _ _) h30
  · have hok2 : okCells p t (l.eraseIdx ((idleN p.toNat t.toNat l)[k])) = true := by
      refine okCells_sub hok ?_ (fun c hc => List.mem_of_mem_eraseIdx hc)
      have h30 : l.length ≤ 30 := by
        simp only [okCells, Bool.and_eq_true, decide_eq_true_eq] at hok
        omega
      exact Nat.le_trans (List.length_eraseIdx_le _ _) h30
    rw [countV, countV, if_pos hok, if_pos hok2]
    have := of_decide_eq_true h2
    exact_mod_cast this

/-- the smallest set: no picture fits it, but some one with any one less -/
theorem clash_law {p t : Int} {l : List Cel} (h : clashE p t l = 0) : ∃ s : List Nat, clashV p t l = s.map (fun i : Nat => (i : Int)) ∧ s.length ≤ 12 ∧ l.length ≤ 12 ∧ (∀ i ∈ s, i < l.length) ∧ okCells p t l = true ∧
    ∀ skip : Int, -1 ≤ skip → skip < (s.length : Int) → cellsE p t (someL l s skip s.length) = 0 ∧ ((countV p t (someL l s skip s.length) = 0) ↔ skip < 0) := by
  unfold clashE at h
  split at h
  rotate_left
  · omega
  rename_i hok
  split at h
  rotate_left
  · omega
  rename_i h12
  cases hc : clashT l (pics (t.toNat + 1) p.toNat) with
  | none => rw [hc] at h; simp at h
  | some s =>
    obtain ⟨q1, q2, q3, q4⟩ := clashT_spec l _ hc
    have hlt : ∀ i ∈ s, i < l.length := fun i hi => (Inc_lt q1 i hi).2
    refine ⟨s, by rw [clashV, if_pos ⟨hok, h12⟩, hc]; rfl, by omega, h12, hlt, hok, fun skip h1 h2 => ?_⟩
    have hok2 : okCells p t (someL l s skip s.length) = true := by
      refine okCells_sub hok (Nat.le_trans (someL_len _ _ _ _) (by omega)) fun c hc' => ?_
      obtain ⟨i, hi, _, rfl⟩ := (someL_mem l s skip c s.length).1 hc'
      rw [List.getElem?_eq_getElem hi]
      exact cellAt_mem (hlt _ (List.getElem_mem hi))
    refine ⟨by rw [cellsE, if_pos hok2], ?_⟩
    rw [countV, if_pos hok2]
    have key : ((fitting p.toNat t.toNat (someL l s skip s.length)).length : Int) = 0 ↔ fitting p.toNat t.toNat (someL l s skip s.length) = [] := by
      rw [← List.length_eq_zero_iff]; omega
    rw [key]
    constructor
    · intro hnil
      rcases Int.lt_or_le skip 0 with h | h
      · exact h
      · exfalso
        obtain ⟨j, rfl⟩ := Int.eq_ofNat_of_zero_le h
        have hj : j < s.length := by omega
        have hlen : (s.eraseIdx j).length + 1 = s.length := by rw [List.length_eraseIdx, if_pos hj]; omega
        have hf : clB l (pics (t.toNat + 1) p.toNat) (maskL (s.eraseIdx j)) = false := by
          cases hcl : clB l (pics (t.toNat + 1) p.toNat) (maskL (s.eraseIdx j))
          · rfl
          · have := q4 (s.eraseIdx j) (Inc_erase 0 s j q1) (by omega) hcl
            omega
        obtain ⟨x, hx, hfit⟩ := (clB_mask_false l _ (fun i hi => hlt i (List.mem_of_mem_eraseIdx hi))).1 hf
        have : x ∈ fitting p.toNat t.toNat (someL l s (j : Int) s.length) := by
          refine List.mem_filter.2 ⟨hx, List.all_eq_true.2 fun c hc' => ?_⟩
          obtain ⟨i, hi, hne, rfl⟩ := (someL_mem l s (j : Int) c s.length).1 hc'
          rw [List.getElem?_eq_getElem hi]
          refine hfit _ ?_
          rw [List.mem_eraseIdx_iff_getElem]
          exact ⟨i, hi, by omega, rfl⟩
        rw [hnil] at this; simp at this
    · intro hs
      rw [List.eq_nil_iff_forall_not_mem]
      intro x hx
      obtain ⟨hx1, hx2⟩ := List.mem_filter.1 hx
      obtain ⟨i, hi, hf⟩ := (clB_mask l _ hlt).1 q3 x hx1
      obtain ⟨k, hk, rfl⟩ := List.getElem_of_mem hi
      have hm : cellAt l s[k] ∈ someL l s skip s.length := (someL_mem l s skip _ s.length).2 ⟨k, hk, by omega, by rw [List.getElem?_eq_getElem hk]; rfl⟩
      have := List.all_eq_true.1 hx2 _ hm
      rw [hf] at this; cases this
end Go.Proofs.Ytdcflpfaaeijoaa

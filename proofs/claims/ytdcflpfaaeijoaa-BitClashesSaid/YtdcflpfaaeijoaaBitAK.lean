/- Walk: Idle of package bit. -/
import Derived.Test.YtdcflpfaaeijoaaBitAJ
namespace Go.Proofs.Ytdcflpfaaeijoaa
open Go.RowKit
set_option linter.unusedVariables false
attribute [local go_sem] Oper.semAt_some

def cellAt (l : List Cel) (i : Nat) : Cel := l[i]?.getD ⟨[], 0, 0⟩
/-- how many of the first k cells a picture does not fit, and the last of them -/
def cw (l : List Cel) (x : List Int) : Nat → Nat × Nat
  | 0 => (0, 0)
  | k + 1 => if fitC x (cellAt l k) then cw l x k else ((cw l x k).1 + 1, k)
theorem cw_le (l : List Cel) (x : List Int) : ∀ k, (cw l x k).1 ≤ k ∧ (cw l x k).2 ≤ k
  | 0 => ⟨Nat.le_refl _, Nat.le_refl _⟩
  | k + 1 => by
    have := cw_le l x k
    unfold cw; split <;> (try simp only []) <;> omega
theorem cw_spec (l : List Cel) (x : List Int) : ∀ k, ((cw l x k).1 = 0 → ∀ j, j < k → fitC x (cellAt l j) = true) ∧
    ((cw l x k).1 = 1 → (cw l x k).2 < k ∧ fitC x (cellAt l (cw l x k).2) = false ∧ ∀ j, j < k → j ≠ (cw l x k).2 → fitC x (cellAt l j) = true) ∧
    (2 ≤ (cw l x k).1 → ∀ i, ∃ j, j < k ∧ j ≠ i ∧ fitC x (cellAt l j) = false)
  | 0 => ⟨fun _ j hj => by omega, fun h => by simp [cw] at h, fun h => by simp [cw] at h⟩
  | k + 1 => by
    obtain ⟨h0, h1, h2⟩ := cw_spec l x k
    unfold cw
    cases hf : fitC x (cellAt l k)
    · simp only [Bool.false_eq_true, if_false]
      refine ⟨fun h => by omega, fun h => ?_, fun h i => ?_⟩
      · refine ⟨by omega, hf, fun j hj hne => h0 (by omega) j (by omega)⟩
      · by_cases e : (cw l x k).1 = 1
        · obtain ⟨q1, q2, q3⟩ := h1 e
          by_cases e2 : i = k
          · exact ⟨(cw l x k).2, by omega, by omega, q2⟩
          · exact ⟨k, by omega, by omega, hf⟩
        · obtain ⟨j, j1, j2, j3⟩ := h2 (by omega) i
          exact ⟨j, by omega, j2, j3⟩
    · simp only [if_true]
      refine ⟨fun h j hj => ?_, fun h => ?_, fun h i => ?_⟩
      · by_cases e : j = k
        · subst e; exact hf
        · exact h0 h j (by omega)
      · obtain ⟨q1, q2, q3⟩ := h1 h
        refine ⟨by omega, q2, fun j hj hne => ?_⟩
        by_cases e : j = k
        · subst e; exact hf
        · exact q3 j (by omega) hne
      · obtain ⟨j, j1, j2, j3⟩ := h2 h i
        exact ⟨j, by omega, j2, j3⟩

/-- some picture fits all cells but this one -/
def ndB (l : List Cel) (xs : List (List Int)) : List Bool := (List.range l.length).map fun i => xs.any fun x => decide ((cw l x l.length).1 = 1 ∧ (cw l x l.length).2 = i)
theorem ndB_nil (l : List Cel) : ndB l [] = List.replicate l.length false := by
  unfold ndB
  apply List.ext_getElem
  · simp
  · intro i h1 h2; simp
theorem ndB_snoc (l : List Cel) (xs : List (List Int)) (x : List Int) : ndB l (xs ++ [x]) = if (cw l x l.length).1 = 1 then (ndB l xs).set (cw l x l.length).2 true else ndB l xs := by
  unfold ndB
  apply List.ext_getElem?
  intro i
  by_cases hc : (cw l x l.length).1 = 1
  · rw [if_pos hc, List.getElem?_set]
    by_cases hi : i < l.length
    · by_cases e : (cw l x l.length).2 = i
      · simp [hi, e, hc]
      · simp [hi, e, hc]
    · simp [hi]; omega
  · rw [if_neg hc]
    by_cases hi : i < l.length
    · simp [hi, hc]
    · simp [hi]
theorem ndB_len (l : List Cel) (xs : List (List Int)) : (ndB l xs).length = l.length := by simp [ndB]

/-- the cells without each of which alone as many pictures fit -/
def idleN (P T : Nat) (l : List Cel) : List Nat := (List.range l.length).filter fun i => decide ((fitting P T (l.eraseIdx i)).length = (fitting P T l).length)
def idleV (p t : Int) (l : List Cel) : List Int := if okCells p t l then (idleN p.toNat t.toNat l).map (fun i : Nat => (i : Int)) else []

theorem fitA_at (l : List Cel) (x : List Int) : fitA l x = true ↔ ∀ j, j < l.length → fitC x (cellAt l j) = true := by
  unfold fitA
  rw [List.all_eq_true]
  constructor
  · intro h j hj
    unfold cellAt
    rw [List.getElem?_eq_getElem hj]
    exact h _ (List.getElem_mem hj)
  · intro h c hc
    obtain ⟨j, hj, rfl⟩ := List.getElem_of_mem hc
    have := h j hj
    unfold cellAt at this
    rw [List.getElem?_eq_getElem hj] at this
    exact this
theorem fitA_erase (l : List Cel) (x : List Int) {i : Nat} (hi : i < l.length) : fitA (l.eraseIdx i) x = true ↔ ∀ j, j < l.length → j ≠ i → fitC x (cellAt l j) = true := by
  rw [fitA_at, List.length_eraseIdx, if_pos hi]
  constructor
  · intro h j hj hne
    by_cases e : j < i
    · have := h j (by omega)
      unfold cellAt at this ⊢
      rwa [List.getElem?_eraseIdx_of_lt e] at this
    · have := h (j - 1) (by omega)
      unfold cellAt at this ⊢
      rw [List.getElem?_eraseIdx_of_ge (by omega), show j - 1 + 1 = j by omega] at this
      exact this
  · intro h j hj
    by_cases e : j < i
    · have := h j (by omega) (by omega)
      unfold cellAt at this ⊢
      rwa [List.getElem?_eraseIdx_of_lt e]
    · have := h (j + 1) (by omega) (by omega)
      unfold cellAt at this ⊢
      rwa [List.getElem?_eraseIdx_of_ge (by omega)]
theorem need_iff (l : List Cel) (x : List Int) {i : Nat} (hi : i < l.length) : ((cw l x l.length).1 = 1 ∧ (cw l x l.length).2 = i) ↔ (fitA (l.eraseIdx i) x = true ∧ fitA l x = false) := by
  obtain ⟨h0, h1, h2⟩ := cw_spec l x l.length
  constructor
  · rintro ⟨e1, e2⟩
    obtain ⟨q1, q2, q3⟩ := h1 e1
    rw [e2] at q2 q3
    refine ⟨(fitA_erase l x hi).2 q3, ?_⟩
    cases hf : fitA l x
    · rfl
    · exact absurd ((fitA_at l x).1 hf i hi) (by rw [q2]; simp)
  · rintro ⟨e1, e2⟩
    have e1 := (fitA_erase l x hi).1 e1
    have hbad : fitC x (cellAt l i) = false := by
      cases hf : fitC x (cellAt l i)
      · rfl
      · have : fitA l x = true := (fitA_at l x).2 fun j hj => by
          by_cases e : j = i
          · subst e; exact hf
          · exact e1 j hj e
        rw [this] at e2; cases e2
    rcases Nat.lt_or_ge (cw l x l.length).1 1 with h | h
    · have := h0 (by omega) i hi
      rw [hbad] at this; cases this
    · by_cases h' : (cw l x l.length).1 = 1
      · obtain ⟨q1, q2, q3⟩ := h1 h'
        refine ⟨h', ?_⟩
        rcases Nat.decEq (cw l x l.length).2 i with hne | he
        · have := e1 _ q1 hne
          rw [q2] at this; cases this
        · exact he
      · obtain ⟨j, j1, j2, j3⟩ := h2 (by omega) i
        have := e1 j j1 j2
        rw [j3] at this; cases this
theorem fitA_sub (l : List Cel) (x : List Int) (i : Nat) (h : fitA l x = true) : fitA (l.eraseIdx i) x = true := by
  unfold fitA at h ⊢
  rw [List.all_eq_true] at h ⊢
  exact fun c hc => h c (List.mem_of_mem_eraseIdx hc)
theorem filter_len_eq {α : Type} (f g : α → Bool) (h : ∀ x, f x = true → g x = true) : ∀ xs : List α, (xs.filter f).length ≤ (xs.filter g).length ∧ ((xs.filter g).length = (xs.filter f).length ↔ ∀ x ∈ xs, ¬ (g x = true ∧ f x = false))
  | [] => by simp
  | x :: xs => by
    obtain ⟨h1, h2⟩ := filter_len_eq f g h xs
    cases hf : f x <;> cases hg : g x
    · simp [hf, hg, h1, h2]
    · simp [hf, hg]; constructor
      · omega
      · omega
    · have := h x hf; rw [hg] at this; cases this
    · simp [hf, hg, h1, h2]
theorem idle_iff {P T : Nat} (l : List Cel) {i : Nat} (hi : i < l.length) : (ndB l (pics (T + 1) P))[i]?.getD false = !decide ((fitting P T (l.eraseIdx i)).length = (fitting P T l).length) := by
  have h := (filter_len_eq (fitA l) (fitA (l.eraseIdx i)) (fun x hx => fitA_sub l x i hx) (pics (T + 1) P)).2
  have e : (ndB l (pics (T + 1) P))[i]?.getD false = (pics (T + 1) P).any fun x => decide ((cw l x l.length).1 = 1 ∧ (cw l x l.length).2 = i) := by
    unfold ndB; simp [hi]
  rw [e]
  unfold fitting
  rw [Bool.eq_iff_iff]
  simp only [List.any_eq_true, Bool.not_eq_true', decide_eq_true_eq, decide_eq_false_iff_not]
  rw [h]
  simp only [need_iff l _ hi]
  constructor
  · rintro ⟨x, hx, hq⟩ hall
    exact hall x hx hq
  · intro hn
    obtain ⟨x, hx⟩ := Classical.not_forall.1 hn
    obtain ⟨hx1, hx2⟩ := Classical.not_imp.1 hx
    exact ⟨x, hx1, Classical.not_not.1 hx2⟩

/-- block b is a row of truths -/
def BoolRow (w : World) (E : TypeId) (b : Nat) (l : List Bool) : Prop := w.heap[b]? = some (.cells (l.map Value.bool).toArray E (0, 0))
theorem BoolRow.lt {w : World} {E : TypeId} {b : Nat} {l : List Bool} (h : BoolRow w E b l) : b < w.heap.size := (Array.getElem?_eq_some_iff.1 h).1
theorem BoolRow.cell {w : World} {E : TypeId} {b : Nat} {l : List Bool} (h : BoolRow w E b l) {j : Nat} (hj : j < l.length) : w.cell? ⟨b, j, none⟩ = some (.bool (l[j]?.getD false)) := by
  simp [World.cell?, show w.heap[b]? = _ from h, hj]
theorem BoolRow.frozen {w : World} {E : TypeId} {b : Nat} {l : List Bool} (h : BoolRow w E b l) (j : Nat) : w.frozen? ⟨b, j, none⟩ = false := by
  simp [World.frozen?, show w.heap[b]? = _ from h]
theorem BoolRow.keep {w w' : World} {E : TypeId} {b : Nat} {l : List Bool} (h : BoolRow w E b l) (hk : w'.heap[b]? = w.heap[b]?) : BoolRow w' E b l := hk.trans h
theorem BoolRow.set {w : World} {E : TypeId} {b : Nat} {l : List Bool} (h : BoolRow w E b l) (j : Nat) (n : Bool) : BoolRow (w.setCell ⟨b, j, none⟩ (.bool n)) E b (l.set j n) := by
  obtain ⟨hlt, hk⟩ := Array.getElem?_eq_some_iff.1 h
  unfold BoolRow
  show (w.heap.modify b _)[b]? = _
  rw [Array.getElem?_eq_getElem (by rw [Array.size_modify]; exact hlt), Array.getElem_modify_self, hk]
  simp [List.map_set]
theorem BoolRow.made (w : World) (E : TypeId) (n : Nat) : BoolRow (w.alloc (.cells (madeCells #[.bool false] n) E)) E w.heap.size (List.replicate n false) := by
  have e : madeCells #[Value.bool false] n = ((List.replicate n false).map Value.bool).toArray := by
    apply Array.toList_inj.1
    rw [toList_madeCells_one]; simp
  unfold BoolRow
  rw [← e]
  exact World.alloc_heap_new _ _
theorem info_bool : (Try.prog.info? 4).map (fun i => (i.zero, i.size, i.bytes)) = some (some (.bool false), 1, 1) := by kernel_rfl
end Go.Proofs.Ytdcflpfaaeijoaa

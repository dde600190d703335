/- Sets in order: how the iterator steps. -/
import Derived.Test.YtfipebkhomppmaaLinI
namespace Go.Proofs.Ytfipebkhomppmaa
set_option linter.unusedVariables false

theorem upF_get : ∀ (m : Nat) (a : Int) (j : Nat), j < m → (upF a m)[j]? = some (a + j)
  | 0, _, _, h => by omega
  | m + 1, a, 0, _ => by simp [upF]
  | m + 1, a, j + 1, h => by
    show (upF (a + 1) m)[j]? = _
    rw [upF_get m (a + 1) j (by omega)]; congr 1; omega
theorem upF_snoc : ∀ (m : Nat) (a : Int), upF a (m + 1) = upF a m ++ [a + m]
  | 0, a => by simp [upF]
  | m + 1, a => by
    show a :: upF (a + 1) (m + 1) = a :: (upF (a + 1) m ++ _)
    rw [upF_snoc m (a + 1)]
    congr 3; omega
theorem upF_range (m : Nat) : ∀ a : Nat, upF (a : Int) m = (List.range' a m).map (fun j : Nat => (j : Int)) := by
  induction m with
  | zero => intro a; rfl
  | succ m ih =>
    intro a
    show (a : Int) :: upF ((a : Int) + 1) m = _
    have := ih (a + 1)
    rw [show ((a : Int) + 1) = ((a + 1 : Nat) : Int) by omega, this]
    simp [List.range'_succ]

/-- the tail of a set stands at its end from behind m on -/
def TailAt (n k : Nat) (x : List Int) (m : Nat) : Prop := ∀ j, m ≤ j → j < k → x[j]? = some ((n : Int) - k + j)

theorem tail_le {n k m : Nat} {x : List Int} (hl : x.length = k) (hp : x.Pairwise (· < ·)) (hb : ∀ y ∈ x, y < (n : Int)) (hm : m < k) (ht : TailAt n k x (m + 1)) : x[m]?.getD 0 ≤ (n : Int) - k + m := by
  have hml : m < x.length := by omega
  rw [List.getElem?_eq_getElem hml]
  by_cases e : m + 1 = k
  · have := hb _ (List.getElem_mem hml); simp; omega
  · have h1 := ht (m + 1) (Nat.le_refl _) (by omega)
    have hml1 : m + 1 < x.length := by omega
    rw [List.getElem?_eq_getElem hml1] at h1
    have h2 := List.pairwise_iff_getElem.1 hp m (m + 1) hml hml1 (by omega)
    have h3 := Option.some.inj h1
    simp; omega
theorem tail_step {n k m : Nat} {x : List Int} (hl : x.length = k) (hm : m < k) (ht : TailAt n k x (m + 1)) (he : x[m]?.getD 0 = (n : Int) - k + m) : TailAt n k x m := by
  intro j h1 h2
  by_cases e : j = m
  · subst e
    rw [List.getElem?_eq_getElem (by omega)] at he ⊢
    rw [← he]; rfl
  · exact ht j (by omega) h2
theorem tail_drop {n k m : Nat} {x : List Int} (hl : x.length = k) (hk : k ≤ n) (hm : m ≤ k) (ht : TailAt n k x m) : x.drop m = upF ((n : Int) - (k - m : Nat)) (k - m) := by
  apply List.ext_getElem?
  intro j
  rw [List.getElem?_drop]
  rcases Nat.lt_or_ge j (k - m) with h | h
  · rw [ht (m + j) (by omega) (by omega), upF_get _ _ _ h]; congr 1; omega
  · rw [List.getElem?_eq_none (by omega), List.getElem?_eq_none (by rw [upF_len]; omega)]

theorem next_none {n k : Nat} {x : List Int} (hl : x.length = k) (hk : k ≤ n) (ht : TailAt n k x 0) : nextS n x = none := by
  have := tail_drop hl hk (Nat.zero_le _) ht
  rw [List.drop_zero, Nat.sub_zero] at this
  rw [this]
  exact nextS_up k _ (by omega)
/-- a set being filled -/
def fillS (x : List Int) (m j : Nat) : List Int := x.take m ++ upF (x[m]?.getD 0 + 1) (j - m) ++ x.drop j
theorem fillS_len {x : List Int} {m j : Nat} (h1 : m ≤ j) (h2 : j ≤ x.length) : (fillS x m j).length = x.length := by
  unfold fillS; simp [upF_len]; omega
theorem fillS_get {x : List Int} {m j : Nat} (h1 : m < j) (h2 : j ≤ x.length) : (fillS x m j)[j - 1]?.getD 0 = x[m]?.getD 0 + (j - m : Nat) := by
  unfold fillS
  rw [List.getElem?_append_left (by simp [upF_len]; omega), List.getElem?_append_right (by simp; omega)]
  simp only [List.length_take]
  rw [show j - 1 - min m x.length = j - m - 1 by omega, upF_get _ _ _ (by omega)]
  simp; omega
theorem fillS_set {x : List Int} {m j : Nat} (h1 : m ≤ j) (h2 : j < x.length) : (fillS x m j).set j (x[m]?.getD 0 + (j + 1 - m : Nat)) = fillS x m (j + 1) := by
  unfold fillS
  have hl : (x.take m ++ upF (x[m]?.getD 0 + 1) (j - m)).length = j := by simp [upF_len]; omega
  rw [List.set_append_right _ _ (by omega), hl, Nat.sub_self, List.drop_eq_getElem_cons h2, List.set_cons_zero, show j + 1 - m = (j - m) + 1 by omega, upF_snoc]
  simp
  omega
theorem fillS_start {x : List Int} {m : Nat} (hm : m < x.length) : x.set m (x[m]?.getD 0 + 1) = fillS x m (m + 1) := by
  have := fillS_set (x := x) (m := m) (j := m) (Nat.le_refl _) hm
  rw [show m + 1 - m = 1 by omega] at this
  unfold fillS at this ⊢
  rw [← this]
  simp [upF]
theorem fillS_done {n k m : Nat} {x : List Int} (hl : x.length = k) (hk : k ≤ n) (hm : m < k) (ht : TailAt n k x (m + 1)) (hlt : x[m]?.getD 0 < (n : Int) - k + m) : nextS n x = some (fillS x m k) := by
  have h1 := tail_drop hl hk (by omega) ht
  have hml : m < x.length := by omega
  have hx : x = x.take m ++ x[m] :: upF ((n : Int) - (k - (m + 1) : Nat)) (k - (m + 1)) := by
    rw [← h1, ← List.drop_eq_getElem_cons hml, List.take_append_drop]
  have hd : x[m]?.getD 0 = x[m] := by rw [List.getElem?_eq_getElem hml]; rfl
  rw [hd] at hlt
  have h2 := nextS_at (n := (n : Int)) (m := k - (m + 1)) (d := x[m]) (by omega) (x.take m)
  rw [← hx] at h2
  rw [h2]
  unfold fillS
  rw [hd, List.drop_eq_nil_of_le (by omega), List.append_nil, show k - (m + 1) + 1 = k - m by omega]

theorem take_snoc_at {α : Type} {l : List α} {i : Nat} {x : α} (h : l[i]? = some x) : l.take i ++ [x] = l.take (i + 1) := by
  obtain ⟨hi, rfl⟩ := List.getElem?_eq_some_iff.1 h
  rw [List.take_succ_eq_append_getElem hi]
theorem take_all_at {α : Type} {l : List α} {i : Nat} {x : α} (h : l[i]? = some x) (hn : l[i + 1]? = none) : l.take (i + 1) = l := by
  exact List.take_of_length_le (List.getElem?_eq_none_iff.1 hn)
end Go.Proofs.Ytfipebkhomppmaa

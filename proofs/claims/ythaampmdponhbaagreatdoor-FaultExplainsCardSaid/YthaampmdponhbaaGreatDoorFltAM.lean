/- Copies of slices of tests by append. -/
import Derived.Test.YthaampmdponhbaaGreatDoorFltAK
namespace Go.Proofs.YthaampmdponhbaaGreatDoor
open Go.RowKit
set_option linter.unusedVariables false

theorem cell_inT {w : World} {a : Addr} {v : Value} (h : w.cell? a = some v) : a.block < w.heap.size := by
  unfold World.cell? at h
  split at h
  · rename_i c _ _ hb
    exact (Array.getElem?_eq_some_iff.1 hb).1
  · simp at h

/-- the values of tests in a row -/
def HeadT (W : World) (xs : List Value) (L : List Tst) : Prop :=
  xs.length = L.length * 2 ∧ ∀ j (hj : j < L.length), ∃ sa sn sc ra rn rc, xs[j * 2]? = some (.slice sa sn sc) ∧ xs[j * 2 + 1]? = some (.slice ra rn rc) ∧ L[j].shown.length = sn ∧ sn ≤ maxLen ∧ IntsAt W sa L[j].shown ∧ L[j].read.length = rn ∧ rn ≤ maxLen ∧ IntsAt W ra L[j].read
theorem HeadT.below {W W' : World} {xs : List Value} {L : List Tst} (h : HeadT W xs L) (hb : Below W.heap.size W W') : HeadT W' xs L :=
  ⟨h.1, fun j hj => by
    obtain ⟨sa, sn, sc, ra, rn, rc, h1, h2, h3, h4, h5, h6, h7, h8⟩ := h.2 j hj
    exact ⟨sa, sn, sc, ra, rn, rc, h1, h2, h3, h4, h5.below hb, h6, h7, h8.below hb⟩⟩
theorem HeadT.one {W : World} {sa ra : Option Addr} {sn sc rn rc : Nat} {t : Tst} (h1 : t.shown.length = sn) (h2 : sn ≤ maxLen) (h3 : IntsAt W sa t.shown) (h4 : t.read.length = rn) (h5 : rn ≤ maxLen) (h6 : IntsAt W ra t.read) : HeadT W [.slice sa sn sc, .slice ra rn rc] [t] :=
  ⟨rfl, fun j hj => by
    obtain rfl : j = 0 := by simp at hj; omega
    exact ⟨sa, sn, sc, ra, rn, rc, rfl, rfl, h1, h2, h3, h4, h5, h6⟩⟩
theorem HeadT.append {W : World} {xs ys : List Value} {L K : List Tst} (h : HeadT W xs L) (k : HeadT W ys K) : HeadT W (xs ++ ys) (L ++ K) := by
  refine ⟨by rw [List.length_append, List.length_append, h.1, k.1]; omega, fun j hj => ?_⟩
  by_cases e : j < L.length
  · obtain ⟨sa, sn, sc, ra, rn, rc, h1, h2, h3⟩ := h.2 j e
    refine ⟨sa, sn, sc, ra, rn, rc, by rw [List.getElem?_append_left (by rw [h.1]; omega)]; exact h1, by rw [List.getElem?_append_left (by rw [h.1]; omega)]; exact h2, ?_⟩
    rw [List.getElem_append_left e]; exact h3
  · have hj2 : j - L.length < K.length := by simp at hj; omega
    obtain ⟨sa, sn, sc, ra, rn, rc, h1, h2, h3⟩ := k.2 (j - L.length) hj2
    refine ⟨sa, sn, sc, ra, rn, rc, by rw [List.getElem?_append_right (by rw [h.1]; omega), h.1, show j * 2 - L.length * 2 = (j - L.length) * 2 by omega]; exact h1, by rw [List.getElem?_append_right (by rw [h.1]; omega), h.1, show j * 2 + 1 - L.length * 2 = (j - L.length) * 2 + 1 by omega]; exact h2, ?_⟩
    rw [List.getElem_append_right (by omega)]; exact h3
theorem HeadT.oneCell {W : World} {xs : List Value} {L : List Tst} (h : HeadT W xs L) : ∀ u ∈ xs, u.oneCell' = true := by
  intro u hu
  obtain ⟨i, hi, rfl⟩ := List.mem_iff_getElem.1 hu
  have hx := h.1
  obtain ⟨sa, sn, sc, ra, rn, rc, h1, h2, _⟩ := h.2 (i / 2) (by omega)
  have hm : i % 2 = 0 ∨ i % 2 = 1 := by omega
  rcases hm with e | e
  · rw [show i / 2 * 2 = i by omega, List.getElem?_eq_getElem hi] at h1
    rw [Option.some.inj h1]; rfl
  · rw [show i / 2 * 2 + 1 = i by omega, List.getElem?_eq_getElem hi] at h2
    rw [Option.some.inj h2]; rfl

theorem heads_of_tests {W : World} {a : Option Addr} {L : List Tst} (H : TestsAt W a L) : ∃ xs, HeadT W xs L ∧ (∀ ad, a = some ad → ∀ j u, xs[j]? = some u → W.cell? (ad.add j) = some u) ∧ (a = none → L.length = 0) := by
  cases a with
  | none =>
    have h0 : L.length = 0 := by
      rcases Nat.eq_zero_or_pos L.length with h | h
      · exact h
      · obtain ⟨_, _, _, _, _, _, _, _, e, _⟩ := H 0 h; cases e
    have : L = [] := List.eq_nil_of_length_eq_zero h0
    subst this
    exact ⟨[], ⟨rfl, fun j hj => by simp at hj⟩, fun ad e => (by cases e), fun _ => rfl⟩
  | some ad =>
    refine ⟨(List.range (L.length * 2)).map fun i => (W.cell? (ad.add i)).getD undef, ⟨by simp, fun j hj => ?_⟩, fun ad' e j u hu => ?_, fun e => (by cases e)⟩
    · obtain ⟨b, off, sa, sn, sc, ra, rn, rc, e, hb, h0, h1, h2⟩ := H j hj
      cases e
      refine ⟨sa, sn, sc, ra, rn, rc, ?_, ?_, h2⟩
      · rw [List.getElem?_map, List.getElem?_range (by omega)]; simp [Addr.add_lit, h0]
      · rw [List.getElem?_map, List.getElem?_range (by omega)]; simp [Addr.add_lit, ← Nat.add_assoc, h1]
    · cases e
      rw [List.getElem?_map] at hu
      obtain ⟨i, hi, rfl⟩ := Option.map_eq_some_iff.1 hu
      obtain ⟨hlt, e2⟩ := List.getElem?_eq_some_iff.1 hi
      simp at e2 hlt
      subst e2
      obtain ⟨b, off, sa, sn, sc, ra, rn, rc, e, hb, h0, h1, h2⟩ := H (j / 2) (by omega)
      cases e
      rw [Addr.add_lit]
      have hm : j % 2 = 0 ∨ j % 2 = 1 := by omega
      rcases hm with e | e
      · rw [show off + j / 2 * 2 = off + j by omega] at h0; rw [h0]; rfl
      · rw [show off + j / 2 * 2 + 1 = off + j by omega] at h1; rw [h1]; rfl

/-- an own slice of tests reads as its tests -/
theorem tests_of_own {W : World} {base n c : Nat} {T : TypeId} {a : Option Addr} {xs : List Value} {L : List Tst} (h : W.ownsRow base T 2 (.slice a n c) n xs) (hv : HeadT W xs L) (hl : L.length = n) : TestsAt W a L := by
  intro j hj
  rcases h.2 with ⟨_, h0⟩ | ⟨g, cap, cur, e, hg, hh, rest⟩
  · omega
  · cases e
    have hlt := (Array.getElem?_eq_some_iff.1 hh).1
    have hc : ∀ i, i < n * 2 → W.cell? ⟨g, i, none⟩ = xs[i]? := fun i hi => World.ownsRow.cellAt (w := W) (base := base) (e := T) (size := 2) (g := g) (n := n) (cap := c) (xs := xs) h i hi
    obtain ⟨sa, sn, sc, ra, rn, rc, h1, h2, h3⟩ := hv.2 j hj
    exact ⟨g, 0, sa, sn, sc, ra, rn, rc, rfl, hlt, by rw [Nat.zero_add, hc _ (by omega)]; exact h1, by rw [Nat.zero_add, hc _ (by omega)]; exact h2, h3⟩
end Go.Proofs.YthaampmdponhbaaGreatDoor

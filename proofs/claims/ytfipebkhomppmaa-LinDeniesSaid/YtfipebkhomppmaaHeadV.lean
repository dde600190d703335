/- Headers of rows (drawn out of FltAH). -/
import Derived.Test.YtfipebkhomppmaaLwR
import Derived.Test.YtfipebkhomppmaaApp
namespace Go.Proofs.Ytfipebkhomppmaa
open Go.RowKit
set_option linter.unusedVariables false

/-- the headers of slices of ints -/
def HeadV (W : World) (xs : List Value) (L : List (List Int)) : Prop :=
  xs.length = L.length ∧ ∀ j (hj : j < L.length), ∃ ra rn rc, xs[j]? = some (.slice ra rn rc) ∧ L[j].length = rn ∧ rn ≤ maxLen ∧ IntsAt W ra L[j]
theorem HeadV.nil (W : World) : HeadV W [] [] := ⟨rfl, fun j hj => by simp at hj⟩
theorem HeadV.below {W W' : World} {xs : List Value} {L : List (List Int)} (h : HeadV W xs L) (hb : Below W.heap.size W W') : HeadV W' xs L :=
  ⟨h.1, fun j hj => by obtain ⟨ra, rn, rc, h1, h2, h3, h4⟩ := h.2 j hj; exact ⟨ra, rn, rc, h1, h2, h3, h4.below hb⟩⟩
theorem HeadV.one {W : World} {ra : Option Addr} {rn rc : Nat} {l : List Int} (hn : l.length = rn) (hm : rn ≤ maxLen) (h : IntsAt W ra l) : HeadV W [.slice ra rn rc] [l] :=
  ⟨rfl, fun j hj => by
    obtain rfl : j = 0 := by simp at hj; omega
    exact ⟨ra, rn, rc, rfl, hn, hm, h⟩⟩
theorem HeadV.append {W : World} {xs ys : List Value} {L K : List (List Int)} (h : HeadV W xs L) (k : HeadV W ys K) : HeadV W (xs ++ ys) (L ++ K) := by
  refine ⟨by simp [h.1, k.1], fun j hj => ?_⟩
  by_cases e : j < L.length
  · obtain ⟨ra, rn, rc, h1, h2, h3, h4⟩ := h.2 j e
    refine ⟨ra, rn, rc, by rw [List.getElem?_append_left (by rw [h.1]; exact e)]; exact h1, ?_, h3, ?_⟩
    · rw [List.getElem_append_left e]; exact h2
    · rw [List.getElem_append_left e]; exact h4
  · have hj2 : j - L.length < K.length := by simp at hj; omega
    obtain ⟨ra, rn, rc, h1, h2, h3, h4⟩ := k.2 (j - L.length) hj2
    refine ⟨ra, rn, rc, by rw [List.getElem?_append_right (by rw [h.1]; omega), h.1]; exact h1, ?_, h3, ?_⟩
    · rw [List.getElem_append_right (by omega)]; exact h2
    · rw [List.getElem_append_right (by omega)]; exact h4
theorem HeadV.oneCell {W : World} {xs : List Value} {L : List (List Int)} (h : HeadV W xs L) : ∀ u ∈ xs, u.oneCell' = true := by
  intro u hu
  obtain ⟨i, hi, rfl⟩ := List.mem_iff_getElem.1 hu
  obtain ⟨ra, rn, rc, h1, _⟩ := h.2 i (by rw [← h.1]; exact hi)
  rw [List.getElem?_eq_getElem hi] at h1
  rw [Option.some.inj h1]; rfl

theorem heads_of_rows {W : World} {a : Option Addr} {L : List (List Int)} (H : RowsAt W a L) : ∃ xs, HeadV W xs L ∧ (∀ ad, a = some ad → ∀ j u, xs[j]? = some u → W.cell? (ad.add j) = some u) ∧ (a = none → L.length = 0) := by
  cases a with
  | none =>
    have h0 : L.length = 0 := by
      rcases Nat.eq_zero_or_pos L.length with h | h
      · exact h
      · obtain ⟨_, _, _, _, _, e, _⟩ := H 0 h; cases e
    have : L = [] := List.eq_nil_of_length_eq_zero h0
    subst this
    exact ⟨[], HeadV.nil W, fun ad e => (by cases e), fun _ => rfl⟩
  | some ad =>
    refine ⟨(List.range L.length).map fun i => (W.cell? (ad.add i)).getD undef, ⟨by simp, fun j hj => ?_⟩, fun ad' e j u hu => ?_, fun e => (by cases e)⟩
    · obtain ⟨b, off, ra, rn, rc, e, hb, h0, h1, h2, h3⟩ := H j hj
      cases e
      refine ⟨ra, rn, rc, ?_, h1, h2, h3⟩
      rw [List.getElem?_map, List.getElem?_range hj]; simp [Addr.add_lit, h0]
    · cases e
      rw [List.getElem?_map] at hu
      obtain ⟨i, hi, rfl⟩ := Option.map_eq_some_iff.1 hu
      obtain ⟨hlt, e2⟩ := List.getElem?_eq_some_iff.1 hi
      simp at e2 hlt
      subst e2
      obtain ⟨b, off, ra, rn, rc, e, hb, h0, _⟩ := H j hlt
      cases e
      rw [Addr.add_lit, h0]; rfl

theorem cell_in {w : World} {a : Addr} {v : Value} (h : w.cell? a = some v) : a.block < w.heap.size := by
  unfold World.cell? at h
  split at h
  · rename_i c _ _ hb
    exact (Array.getElem?_eq_some_iff.1 hb).1
  · simp at h
/-- an own slice of slices of ints reads as its rows -/
theorem rows_of_own {W : World} {base n c : Nat} {T : TypeId} {a : Option Addr} {xs : List Value} {L : List (List Int)} (h : W.ownsRow base T 1 (.slice a n c) n xs) (hv : HeadV W xs L) (hl : L.length = n) : RowsAt W a L := by
  intro j hj
  rcases h.2 with ⟨_, h0⟩ | ⟨g, cap, cur, e, hg, hh, rest⟩
  · omega
  · cases e
    have hlt := (Array.getElem?_eq_some_iff.1 hh).1
    have hc : W.cell? ⟨g, j, none⟩ = xs[j]? := World.ownsRow.cellAt (w := W) (base := base) (e := T) (size := 1) (g := g) (n := n) (cap := c) (xs := xs) h j (by omega)
    obtain ⟨ra, rn, rc, h1, h2, h3, h4⟩ := hv.2 j hj
    exact ⟨g, 0, ra, rn, rc, rfl, hlt, by rw [Nat.zero_add, hc]; exact h1, h2, h3, h4⟩
end Go.Proofs.Ytfipebkhomppmaa

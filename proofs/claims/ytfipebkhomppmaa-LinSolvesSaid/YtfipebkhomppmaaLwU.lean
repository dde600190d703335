/- An owned table of headers, its rows readable (package reference 03). -/
import Derived.Test.YtfipebkhomppmaaLwT
import Derived.Test.YtfipebkhomppmaaHeadV
namespace Go.Proofs.Ytfipebkhomppmaa
open Go.RowKit
set_option linter.unusedVariables false

/-- a header and its row: a block of ints, or nothing -/
def RowS (W : World) (v : Value) (l : List Int) : Prop :=
  (∃ g c, v = .slice (some ⟨g, 0, none⟩) l.length c ∧ SpRow W g l) ∨ (l = [] ∧ ∃ a c, v = .slice a 0 c)
theorem RowS.sl {W : World} {v : Value} {l : List Int} (h : RowS W v l) (hm : l.length ≤ maxLen) : SlV W v l := by
  rcases h with ⟨g, c, rfl, hs⟩ | ⟨rfl, a, c, rfl⟩
  · exact ⟨_, _, _, rfl, rfl, hm, hs.ints⟩
  · exact ⟨_, _, _, rfl, rfl, Nat.zero_le _, fun j hj => by simp at hj⟩
theorem RowS.below {W W' : World} {v : Value} {l : List Int} (h : RowS W v l) (hb : Below W.heap.size W W') : RowS W' v l := by
  rcases h with ⟨g, c, rfl, hs⟩ | h
  · exact .inl ⟨g, c, rfl, hs.keep (hb.block g hs.lt)⟩
  · exact .inr h
/-- an owned table of headers -/
def TabS (W : World) (base : Nat) (v : Value) (L : List (List Int)) : Prop :=
  ∃ vs, W.ownsRow base 31 1 v L.length vs ∧ ∀ j (hj : j < L.length), ∃ u, vs[j]? = some u ∧ RowS W u L[j]
theorem TabS.nil (W : World) (base : Nat) : TabS W base (.slice none 0 0) [] := ⟨[], World.ownsRow_nil _ _ _ _, fun j hj => by simp at hj⟩
theorem TabS.below {W W' : World} {base : Nat} {v : Value} {L : List (List Int)} (h : TabS W base v L) (hb : Below W.heap.size W W') : TabS W' base v L := by
  obtain ⟨vs, h1, h2⟩ := h
  refine ⟨vs, own_below h1 hb, fun j hj => ?_⟩
  obtain ⟨u, hu, hr⟩ := h2 j hj
  exact ⟨u, hu, hr.below hb⟩
theorem TabS.rows {W : World} {base n c : Nat} {a : Option Addr} {L : List (List Int)} (h : TabS W base (.slice a n c) L) (hl : L.length = n) (hm : ∀ r ∈ L, r.length ≤ maxLen) : RowsAt W a L := by
  obtain ⟨vs, h1, h2⟩ := h
  rw [hl] at h1
  refine rows_of_own (xs := vs) h1 ⟨by have := h1.1; omega, fun j hj => ?_⟩ hl
  obtain ⟨u, hu, hr⟩ := h2 j hj
  obtain ⟨ra, rn, rc, rfl, e1, e2, e3⟩ := hr.sl (hm _ (List.getElem_mem hj))
  exact ⟨ra, rn, rc, hu, e1, e2, e3⟩
/-- a header more: vs is the table before, in W; w1 the world of the append; w3 the one behind it -/
theorem TabS.snoc {W w1 w3 : World} {base : Nat} {v v' u : Value} {L : List (List Int)} {r : List Int} {vs : List Value} (h1 : W.ownsRow base 31 1 v L.length vs)
    (h2 : ∀ j (hj : j < L.length), ∃ u, vs[j]? = some u ∧ RowS W u L[j]) (hb : Below W.heap.size W w1) (hr : RowS w1 u r) (hg : w1.grownBy w3 v.ownBlock)
    (ho' : w3.ownsRow base 31 1 v' (L.length + 1) (vs ++ [u])) : TabS w3 base v' (L ++ [r]) := by
  have hlen : vs.length = L.length := by have := h1.1; omega
  have hown : ∀ b, v.ownBlock = some b → ∃ c f, w1.heap[b]? = some (.cells c 31 f) := by
    intro b hb'
    rcases h1.2 with ⟨rfl, _⟩ | ⟨g, cap, cur, rfl, hbg, hgg, _⟩
    · simp [Value.ownBlock] at hb'
    · obtain rfl : g = b := by simpa [Value.ownBlock] using hb'
      exact ⟨cur, _, (hb.block g (Array.getElem?_eq_some_iff.1 hgg).1).trans hgg⟩
  have hold : ∀ b l, SpRow w1 b l → SpRow w3 b l := by
    intro b l hs
    refine hs.keep (hg.block b hs.lt ?_)
    intro e
    obtain ⟨c, f, hc⟩ := hown b e.symm
    obtain ⟨sp, hs⟩ := hs
    rw [hs] at hc
    simp at hc
  have hup : ∀ u l, RowS w1 u l → RowS w3 u l := by
    rintro u l (⟨g, c, rfl, hs⟩ | h)
    · exact .inl ⟨g, c, rfl, hold _ _ hs⟩
    · exact .inr h
  refine ⟨vs ++ [u], by simpa using ho', fun j hj => ?_⟩
  simp only [List.length_append, List.length_cons, List.length_nil, Nat.zero_add] at hj
  by_cases hjl : j < L.length
  · obtain ⟨u', hu', hr'⟩ := h2 j hjl
    rw [List.getElem_append_left hjl]
    exact ⟨u', by rw [List.getElem?_append_left (by omega)]; exact hu', hup _ _ (hr'.below hb)⟩
  · obtain rfl : j = L.length := by omega
    rw [List.getElem_append_right (Nat.le_refl _)]
    simp only [Nat.sub_self, List.getElem_cons_zero]
    exact ⟨u, by rw [List.getElem?_append_right (by omega), hlen]; simp, hup _ _ hr⟩
/-- the header at i: its cell; a row stored there -/
theorem TabS.at {W : World} {base n : Nat} {v : Value} {L : List (List Int)} (h : TabS W base v L) (hl : L.length = n) {i : Nat} (hi : i < n) :
    ∃ g0 cap u, v = .slice (some ⟨g0, 0, none⟩) n cap ∧ base ≤ g0 ∧ g0 < W.heap.size ∧ W.cell? ⟨g0, i, none⟩ = some u ∧ RowS W u (L[i]?.getD []) ∧ W.frozen? ⟨g0, i, none⟩ = false ∧
      ∀ u' r, RowS W u' r → TabS (W.setCell ⟨g0, i, none⟩ u') base v (L.set i r) ∧ ∀ k, k ≠ g0 → (W.setCell ⟨g0, i, none⟩ u').heap[k]? = W.heap[k]? := by
  subst hl
  obtain ⟨vs, h1, h2⟩ := h
  obtain ⟨u, hu, hr⟩ := h2 i hi
  rcases h1.2 with ⟨rfl, h0⟩ | ⟨g0, cap, cur, rfl, hbg, hgg, hnc, hcm, hsz, htk⟩
  · omega
  have hcell := World.ownsRow.cellAt (w := W) (base := base) (e := 31) (size := 1) (g := g0) (n := L.length) (cap := cap) (xs := vs) h1 i (by omega)
  have hvl : vs.length = L.length := by have := h1.1; omega
  refine ⟨g0, cap, u, rfl, hbg, (Array.getElem?_eq_some_iff.1 hgg).1, by rw [hcell]; exact hu, by rw [List.getElem?_eq_getElem hi]; exact hr, by simp [World.frozen?, hgg], ?_⟩
  intro u' r hr'
  have hkeep : ∀ k, k ≠ g0 → (W.setCell ⟨g0, i, none⟩ u').heap[k]? = W.heap[k]? := fun k hk => Below.heap_setCell _ _ _ _ hk
  have hup : ∀ u l, RowS W u l → RowS (W.setCell ⟨g0, i, none⟩ u') u l := by
    rintro u l (⟨g, c, rfl, hs⟩ | h)
    · refine .inl ⟨g, c, rfl, hs.keep (hkeep g ?_)⟩
      rintro rfl
      obtain ⟨sp, hs⟩ := hs
      rw [hgg] at hs
      cases hs
    · exact .inr h
  have hb2 : (W.setCell ⟨g0, i, none⟩ u').heap[g0]? = some (.cells (cur.setIfInBounds i u') 31 (0, 0)) := cells_set hgg i u'
  refine ⟨⟨vs.set i u', ⟨by simpa using h1.1, .inr ⟨g0, cap, cur.setIfInBounds i u', by simp, hbg, hb2, by simpa using hnc, hcm, by simpa using hsz, ?_⟩⟩, fun j hj => ?_⟩, hkeep⟩
  · rw [← htk]
    simp only [Array.toList_setIfInBounds, List.length_set, Nat.mul_one]
    rw [List.take_set]
  · have hj' : j < L.length := by simpa using hj
    by_cases e : i = j
    · subst e
      exact ⟨u', by simp [hvl, hj'], by simpa using hup _ _ hr'⟩
    · obtain ⟨u2, hu2, hr2⟩ := h2 j hj'
      exact ⟨u2, by rw [List.getElem?_set_ne e]; exact hu2, by rw [List.getElem_set_ne e]; exact hup _ _ hr2⟩
end Go.Proofs.Ytfipebkhomppmaa

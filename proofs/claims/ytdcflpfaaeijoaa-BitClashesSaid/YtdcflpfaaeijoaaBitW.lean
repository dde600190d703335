/- Own slices of cells; two ready operations of a drawn region; cuts around a region. -/
import Derived.Test.YtdcflpfaaeijoaaBitV
namespace Go.Proofs.Ytdcflpfaaeijoaa
open Go.RowKit Go.Maps
set_option linter.unusedVariables false

/-- the values of the cells of a list of cells -/
def CelVals (W : World) (xs : List Value) (l : List Cel) : Prop :=
  xs.length = l.length * 3 ∧ ∀ j (hj : j < l.length), ∃ ra n cap, xs[j * 3]? = some (.slice ra n cap) ∧ xs[j * 3 + 1]? = some (.int .i64 l[j].lo) ∧ xs[j * 3 + 2]? = some (.int .i64 l[j].hi) ∧ l[j].row.length = n ∧ n ≤ maxLen ∧ IntsAt W ra l[j].row

theorem CelVals.below {W W' : World} {xs : List Value} {l : List Cel} (h : CelVals W xs l) (hb : Below W.heap.size W W') : CelVals W' xs l := by
  refine ⟨h.1, fun j hj => ?_⟩
  obtain ⟨ra, n, cap, h0, h1, h2, h3, h4, h5⟩ := h.2 j hj
  exact ⟨ra, n, cap, h0, h1, h2, h3, h4, h5.below hb⟩

theorem CelVals.nil (W : World) : CelVals W [] [] := ⟨rfl, fun j hj => by simp at hj⟩

theorem CelVals.append {W : World} {xs ys : List Value} {l m : List Cel} (h : CelVals W xs l) (k : CelVals W ys m) : CelVals W (xs ++ ys) (l ++ m) := by
  refine ⟨by rw [List.length_append, List.length_append, h.1, k.1]; omega, fun j hj => ?_⟩
  by_cases e : j < l.length
  · obtain ⟨ra, n, cap, h0, h1, h2, h3, h4, h5⟩ := h.2 j e
    have hx := h.1
    rw [List.getElem_append_left e]
    exact ⟨ra, n, cap, by rw [List.getElem?_append_left (by omega)]; exact h0, by rw [List.getElem?_append_left (by omega)]; exact h1, by rw [List.getElem?_append_left (by omega)]; exact h2, h3, h4, h5⟩
  · have hj' : j - l.length < m.length := by rw [List.length_append] at hj; omega
    obtain ⟨ra, n, cap, h0, h1, h2, h3, h4, h5⟩ := k.2 (j - l.length) hj'
    have hx := h.1
    have e0 : j * 3 - xs.length = (j - l.length) * 3 := by omega
    have e1 : j * 3 + 1 - xs.length = (j - l.length) * 3 + 1 := by omega
    have e2 : j * 3 + 2 - xs.length = (j - l.length) * 3 + 2 := by omega
    rw [List.getElem_append_right (by omega)]
    exact ⟨ra, n, cap, by rw [List.getElem?_append_right (by omega), e0]; exact h0, by rw [List.getElem?_append_right (by omega), e1]; exact h1, by rw [List.getElem?_append_right (by omega), e2]; exact h2, h3, h4, h5⟩

theorem CelVals.one {W : World} {ra : Option Addr} {n cap : Nat} {c : Cel} (h1 : c.row.length = n) (h2 : n ≤ maxLen) (h3 : IntsAt W ra c.row) : CelVals W [.slice ra n cap, .int .i64 c.lo, .int .i64 c.hi] [c] := by
  refine ⟨rfl, fun j hj => ?_⟩
  have : j = 0 := by simp at hj; omega
  subst this
  exact ⟨ra, n, cap, rfl, rfl, rfl, h1, h2, h3⟩

theorem CelVals.one' {xs : List Value} {W : World} {l : List Cel} (h : CelVals W xs l) : ∀ u ∈ xs, u.oneCell' = true := by
  intro u hu
  obtain ⟨i, hi, rfl⟩ := List.mem_iff_getElem.1 hu
  have hx := h.1
  obtain ⟨ra, n, cap, h0, h1, h2, _⟩ := h.2 (i / 3) (by omega)
  have hi' := Nat.div_add_mod i 3
  have hm : i % 3 = 0 ∨ i % 3 = 1 ∨ i % 3 = 2 := by omega
  rcases hm with e | e | e
  · rw [show i / 3 * 3 = i by omega, List.getElem?_eq_getElem hi] at h0; simp at h0; rw [h0]; rfl
  · rw [show i / 3 * 3 + 1 = i by omega, List.getElem?_eq_getElem hi] at h1; simp at h1; rw [h1]; rfl
  · rw [show i / 3 * 3 + 2 = i by omega, List.getElem?_eq_getElem hi] at h2; simp at h2; rw [h2]; rfl

/-- the values of a slice of cells -/
theorem vals_of_cells {W : World} {a : Option Addr} {l : List Cel} (H : CellsAt W a l) : ∃ xs, CelVals W xs l ∧ (a = none → l.length = 0) ∧ ∀ ad, a = some ad → ∀ j u, xs[j]? = some u → W.cell? (ad.add j) = some u := by
  cases a with
  | none =>
    have : l = [] := by
      rcases l with _ | ⟨c, l⟩
      · rfl
      · obtain ⟨b, off, ra, n, cap, e, _⟩ := H 0 (by simp); cases e
    subst this
    exact ⟨[], CelVals.nil W, fun _ => rfl, fun ad e => by cases e⟩
  | some ad =>
    refine ⟨(List.range (l.length * 3)).map fun i => (W.cell? (ad.add i)).getD undef, ⟨by simp, fun j hj => ?_⟩, fun e => (by cases e), fun ad' e j u hu => ?_⟩
    · obtain ⟨b, off, ra, n, cap, e, hb, h0, h1, h2, h3, h4, h5⟩ := H j hj
      cases e
      refine ⟨ra, n, cap, ?_, ?_, ?_, h3, h4, h5⟩
      · rw [List.getElem?_map, List.getElem?_range (by omega)]; simp [Addr.add_lit, h0]
      · rw [List.getElem?_map, List.getElem?_range (by omega)]; simp [Addr.add_lit, ← Nat.add_assoc, h1]
      · rw [List.getElem?_map, List.getElem?_range (by omega)]; simp [Addr.add_lit, ← Nat.add_assoc, h2]
    · cases e
      rw [List.getElem?_map] at hu
      obtain ⟨i, hi, rfl⟩ := Option.map_eq_some_iff.1 hu
      obtain ⟨hlt, e2⟩ := List.getElem?_eq_some_iff.1 hi
      simp at e2 hlt
      subst e2
      have hj3 : j / 3 < l.length := by omega
      obtain ⟨b, off, ra, n, cap, e, hb, h0, h1, h2, h3, h4, h5⟩ := H (j / 3) hj3
      cases e
      have hm : j % 3 = 0 ∨ j % 3 = 1 ∨ j % 3 = 2 := by omega
      rw [Addr.add_lit]
      rcases hm with e | e | e
      · rw [show off + j / 3 * 3 = off + j by omega] at h0; rw [h0]; rfl
      · rw [show off + j / 3 * 3 + 1 = off + j by omega] at h1; rw [h1]; rfl
      · rw [show off + j / 3 * 3 + 2 = off + j by omega] at h2; rw [h2]; rfl

/-- an own slice of cells reads as its cells -/
theorem cells_of_own {W : World} {base n c : Nat} {T : TypeId} {a : Option Addr} {xs : List Value} {l : List Cel} (h : W.ownsRow base T 3 (.slice a n c) n xs) (hv : CelVals W xs l) (hl : l.length = n) : CellsAt W a l := by
  intro j hj
  rcases h.2 with ⟨_, h0⟩ | ⟨g, cap, cur, e, hg, hh, rest⟩
  · omega
  · cases e
    have hlt := (Array.getElem?_eq_some_iff.1 hh).1
    have hc : ∀ i, i < n * 3 → W.cell? ⟨g, i, none⟩ = xs[i]? := fun i hi => World.ownsRow.cellAt (w := W) (base := base) (e := T) (size := 3) (g := g) (n := n) (cap := c) (xs := xs) h i hi
    obtain ⟨ra, rn, rc, h0, h1, h2, h3, h4, h5⟩ := hv.2 j hj
    refine ⟨g, 0, ra, rn, rc, rfl, hlt, ?_, ?_, ?_, h3, h4, h5⟩
    · rw [Nat.zero_add, hc _ (by omega)]; exact h0
    · rw [Nat.zero_add, hc _ (by omega)]; exact h1
    · rw [Nat.zero_add, hc _ (by omega)]; exact h2

theorem info_cell : (Try.prog.info? 41).map (fun i => (i.zero, i.size, i.bytes)) = some (some (.agg #[.slice none 0 0, .int .i64 0, .int .i64 0]), 3, 40) := by kernel_rfl

theorem news3 (w : World) (x0 x1 x2 : Value) (T : TypeId) : ∀ ad, (some ⟨w.heap.size, 0, none⟩ : Option Addr) = some ad → ∀ j u, [x0, x1, x2][j]? = some u → (w.alloc (.cells #[x0, x1, x2] T)).cell? (ad.add j) = some u := by
  intro ad e j u hu
  cases e
  match j, hu with
  | 0, hu => rw [Addr.add_lit, World.cell?_alloc_at _ _ _ _ rfl]; simpa using hu
  | 1, hu => rw [Addr.add_lit, World.cell?_alloc_at _ _ _ _ rfl]; simpa using hu
  | 2, hu => rw [Addr.add_lit, World.cell?_alloc_at _ _ _ _ rfl]; simpa using hu

theorem region_cut {P : Program} {c : Code} {Q : Exit → Act → World → Prop} {a : Act} {w : World} (R : Act → Act → World → Prop) (h1 : c.wp P (fun e a' w' => e = .normal ∧ R a a' w') a w) (h2 : ∀ a' w', R a a' w' → Q .normal a' w') : c.wp P Q a w :=
  Code.wp_mono (fun e a' w' ⟨he, hr⟩ => by subst he; exact h2 a' w' hr) h1

theorem AnyT.next2 {P : Program} {md : Region.Mode} {ops : Array Oper} {Q : Exit → Act → World → Prop} {T : Nat → World → Prop} {i j : Nat} {fuel : Nat} {listed : Array Bool} {a : Act} {w : World} (hr : Region.ready md ops listed = [i, j])
    (h1 : wpOp P ops Q i (fun a' w' => T i w' ∧ AnyT P md ops Q T fuel (listed.setIfInBounds i true) a' w') a w)
    (h2 : wpOp P ops Q j (fun a' w' => T j w' ∧ AnyT P md ops Q T fuel (listed.setIfInBounds j true) a' w') a w) : AnyT P md ops Q T (fuel + 1) listed a w :=
  ⟨fun h0 => (by rw [hr] at h0; cases h0), fun k hk => by
    rw [hr] at hk
    have : k = i ∨ k = j := by simpa using hk
    rcases this with rfl | rfl
    · exact h1
    · exact h2⟩
end Go.Proofs.Ytdcflpfaaeijoaa

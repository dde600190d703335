/- Tests that a call makes and appends to; Reads with what it owns; that each valid fault is listed. -/
import Derived.Test.YthaampmdponhbaaGreatDoorFltAJ
namespace Go.Proofs.YthaampmdponhbaaGreatDoor
open Go.RowKit
set_option linter.unusedVariables false

theorem info_test : (Tryz.prog.info? 29).map (fun i => (i.zero, i.size, i.bytes)) = some (some (.agg #[.slice none 0 0, .slice none 0 0]), 2, 48) := by kernel_rfl

/-- a slice of tests that the call has made since base -/
def TestsO (W : World) (base : Nat) (v : Value) (T : List Tst) : Prop :=
  ∃ xs, W.ownsRow base 29 2 v T.length xs ∧ ∀ j (hj : j < T.length), ∃ us ur, xs[j * 2]? = some us ∧ xs[j * 2 + 1]? = some ur ∧ ElemI 3 W base (fun _ => True) us T[j].shown ∧ ElemI 3 W base (fun _ => True) ur T[j].read
theorem TestsO.nil (W : World) (base : Nat) : TestsO W base (.slice none 0 0) [] := ⟨[], World.ownsRow_nil _ _ _ _, fun j hj => by simp at hj⟩
theorem TestsO.below {W W' : World} {base : Nat} {v : Value} {T : List Tst} (h : TestsO W base v T) (hb : Below W.heap.size W W') : TestsO W' base v T := by
  obtain ⟨xs, ho, he⟩ := h
  refine ⟨xs, own_below ho hb, fun j hj => ?_⟩
  obtain ⟨us, ur, h1, h2, h3, h4⟩ := he j hj
  exact ⟨us, ur, h1, h2, h3.keep (Keep.of_below hb : Keep (fun _ => True) _ _) (fun _ _ _ _ => trivial), h4.keep (Keep.of_below hb : Keep (fun _ => True) _ _) (fun _ _ _ _ => trivial)⟩
theorem TestsO.slice {W : World} {base : Nat} {v : Value} {T : List Tst} (h : TestsO W base v T) : ∃ a c, v = .slice a T.length c := by
  obtain ⟨xs, ho, _⟩ := h; exact ownsRow_slice ho
theorem TestsO.reads {W : World} {base : Nat} {v : Value} {T : List Tst} (h : TestsO W base v T) : ∃ a cap, v = .slice a T.length cap ∧ T.length ≤ maxLen ∧ TestsAt W a T := by
  obtain ⟨xs, ho, he⟩ := h
  rcases ho.2 with ⟨rfl, h0⟩ | ⟨g, cap, cur, rfl, hbg, hgg, hnc, hcm, hsz, htk⟩
  · exact ⟨none, 0, by rw [h0], by rw [h0]; decide, fun j hj => by omega⟩
  · refine ⟨_, cap, rfl, by omega, fun j hj => ?_⟩
    obtain ⟨us, ur, h1, h2, h3, h4⟩ := he j hj
    have hc : ∀ i, i < T.length * 2 → W.cell? ⟨g, i, none⟩ = xs[i]? := fun i hi =>
      World.ownsRow.cellAt (w := W) (base := base) (e := 29) (size := 2) (g := g) (n := T.length) (cap := cap) (xs := xs) ⟨ho.1, .inr ⟨g, cap, cur, rfl, hbg, hgg, hnc, hcm, hsz, htk⟩⟩ i hi
    obtain ⟨sa, sn, sc, rfl, _⟩ := id h3
    obtain ⟨ra, rn, rc, rfl, _⟩ := id h4
    obtain ⟨k1, k2, k3⟩ := h3.ints
    obtain ⟨m1, m2, m3⟩ := h4.ints
    exact ⟨g, 0, sa, sn, sc, ra, rn, rc, rfl, (Array.getElem?_eq_some_iff.1 hgg).1, by rw [Nat.zero_add, hc _ (by omega)]; exact h1, by rw [Nat.zero_add, hc _ (by omega)]; exact h2, k1, k2, k3, m1, m2, m3⟩
theorem TestsO.snoc {W w1 w2 : World} {base : Nat} {v v' us ur : Value} {T : List Tst} {t : Tst} {xs : List Value}
    (ho : W.ownsRow base 29 2 v T.length xs) (he : ∀ j (hj : j < T.length), ∃ us ur, xs[j * 2]? = some us ∧ xs[j * 2 + 1]? = some ur ∧ ElemI 3 W base (fun _ => True) us T[j].shown ∧ ElemI 3 W base (fun _ => True) ur T[j].read)
    (h1 : ElemI 3 W base (fun _ => True) us t.shown) (h2 : ElemI 3 W base (fun _ => True) ur t.read)
    (hW1 : Below W.heap.size W w1) (hg : w1.grownBy w2 v.ownBlock) (ho' : w2.ownsRow base 29 2 v' (T.length + 1) (xs ++ [us, ur])) : TestsO w2 base v' (T ++ [t]) := by
  have hlen : xs.length = T.length * 2 := ho.1
  have hgb : ∀ b, (b < base ∨ ∃ c f, W.heap[b]? = some (.cells c 3 f)) → b < W.heap.size → w2.heap[b]? = W.heap[b]? := by
    intro b hty hb
    refine (hg.block b (Nat.lt_of_lt_of_le hb hW1.size) ?_).trans (hW1.block b hb)
    rcases ho.2 with ⟨rfl, _⟩ | ⟨g, cap, cur, rfl, hbg, hgg, _⟩
    · simp [Value.ownBlock]
    · intro e
      obtain rfl : b = g := by simpa [Value.ownBlock] using e
      rcases hty with h | ⟨c, f, h⟩
      · omega
      · rw [h] at hgg; cases hgg
  have hel : ∀ u l, ElemI 3 W base (fun _ => True) u l → ElemI 3 w2 base (fun _ => True) u l := by
    intro u l h
    refine h.keep (T := fun b => b < W.heap.size ∧ (b < base ∨ ∃ c f, W.heap[b]? = some (.cells c 3 f))) ⟨hg.os.trans hW1.os, hg.tape.trans hW1.tape, hg.output.trans hW1.output, Nat.le_trans hW1.size hg.size, fun k hk hT => hgb k hT.2 hk⟩ fun b _ hb hty => ⟨hb, hty⟩
  refine ⟨xs ++ [us, ur], by rw [List.length_append]; exact ho', fun j hj => ?_⟩
  by_cases e : j < T.length
  · obtain ⟨us', ur', k1, k2, k3, k4⟩ := he j e
    refine ⟨us', ur', by rw [List.getElem?_append_left (by omega)]; exact k1, by rw [List.getElem?_append_left (by omega)]; exact k2, ?_, ?_⟩
    · rw [List.getElem_append_left e]; exact hel _ _ k3
    · rw [List.getElem_append_left e]; exact hel _ _ k4
  · have : j = T.length := by simp at hj; omega
    subst this
    refine ⟨us, ur, by rw [List.getElem?_append_right (by omega), hlen]; simp, by rw [List.getElem?_append_right (by omega), hlen, show T.length * 2 + 1 - T.length * 2 = 1 by omega]; rfl, ?_, ?_⟩
    · simp only [List.getElem_append_right (Nat.le_refl _), Nat.sub_self, List.getElem_cons_zero]; exact hel _ _ h1
    · simp only [List.getElem_append_right (Nat.le_refl _), Nat.sub_self, List.getElem_cons_zero]; exact hel _ _ h2

theorem readsE_ok {M : Mask} {f : Flt} {x : List Int} (h : readsE M f x = 0) : validF M f = true ∧ okShown M x = true := by
  unfold readsE at h
  by_cases h1 : validF M f = true
  · rw [if_pos h1] at h
    by_cases h2 : okShown M x = true
    · exact ⟨h1, h2⟩
    · rw [if_neg h2] at h; simp at h
  · rw [if_neg h1] at h; simp at h

theorem mem_every {M : Mask} (hM : okM M = true) {f : Flt} (hf : okF M f = true) : f ∈ everyF M := by
  obtain ⟨kind, row, pixel⟩ := f
  rw [everyF_list hM]
  unfold listF
  simp only [List.mem_append, List.mem_singleton, List.mem_map, List.mem_range, List.mem_flatMap]
  obtain ⟨m1, m6, c1, c10, hrows⟩ := okM_len hM
  rcases okF_cases hf hM with ⟨rfl, rfl, rfl⟩ | ⟨rfl, i0, rfl, hi0, rfl⟩ | ⟨rfl, j0, rfl, hj0, rfl⟩ | ⟨rfl, i0, j0, rfl, rfl, hi0, hj0, hne⟩
  · exact .inl (.inl (.inl rfl))
  · exact .inl (.inl (.inr ⟨i0, hi0, rfl⟩))
  · exact .inl (.inr ⟨j0, hj0, rfl⟩)
  · refine .inr ⟨i0, hi0, ?_⟩
    have hl := (hrows M[i0] (List.getElem_mem hi0)).1
    unfold turnsF
    rw [List.getElem?_eq_getElem hi0]
    simp only [Option.getD_some, List.mem_map, List.mem_filter, List.mem_range]
    refine ⟨j0, ⟨by omega, ?_⟩, rfl⟩
    unfold atM at hne
    simp only [Int.toNat_natCast, List.getElem?_eq_getElem hi0, Option.getD_some] at hne
    simpa using hne

/-- what a fault reads itself it explains, and the one of All that is one with it does, too -/
theorem own_which {M : Mask} {f : Flt} {L : List (List Int)} (hv : validF M f = true) : explainsF M f (L.map (fun x => ⟨x, readF M f x⟩)) = true ∧ ∃ g ∈ whichF M (L.map (fun x => ⟨x, readF M f x⟩)), oneE M f g = 0 ∧ oneB M f g = true := by
  obtain ⟨hM, hf⟩ := validF_ok hv
  have h1 : ∀ g, faultyM M g = faultyM M f → explainsF M g (L.map (fun x => ⟨x, readF M f x⟩)) = true := by
    intro g hg
    unfold explainsF
    rw [List.all_eq_true]
    intro t ht
    obtain ⟨x, _, rfl⟩ := List.mem_map.1 ht
    simp [readF, hg]
  refine ⟨h1 f rfl, ?_⟩
  obtain ⟨g, hg, e⟩ := allTo_has (M := M) (mem_every hM hf)
  have hgv : validF M g = true := by unfold validF; rw [hM, all_ok hg]; rfl
  have he : oneE M f g = 0 := by unfold oneE; rw [if_pos ⟨hv, hgv⟩]
  refine ⟨g, ?_, he, ?_⟩
  · unfold whichF
    exact List.mem_filter.2 ⟨hg, h1 g e⟩
  · unfold oneB; rw [he, e]; simp
end Go.Proofs.YthaampmdponhbaaGreatDoor

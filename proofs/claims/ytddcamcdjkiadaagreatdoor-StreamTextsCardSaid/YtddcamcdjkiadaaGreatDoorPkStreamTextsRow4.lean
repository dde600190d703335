/- Walks and plain laws for StreamTextsRow, part 4. -/
import Derived.Maps.AppendAt
import Derived.Deep.CutRange
import Derived.Lib.SliceRun
import Derived.Test.YtddcamcdjkiadaaGreatDoorPkStreamTextsRow3
namespace Go.Proofs.YtddcamcdjkiadaaGreatDoor
section
open Go.RowKit
set_option linter.unusedVariables false

def RowS (W : World) (v : Value) (l : List Int) : Prop :=
  (∃ g c, v = .slice (some ⟨g, 0, none⟩) l.length c ∧ SpRow W g l) ∨ (l = [] ∧ ∃ a c, v = .slice a 0 c)
theorem RowS.below {W W' : World} {v : Value} {l : List Int} (h : RowS W v l) (hb : Below W.heap.size W W') : RowS W' v l := by
  rcases h with ⟨g, c, rfl, hs⟩ | h
  · exact .inl ⟨g, c, rfl, hs.keep (hb.block g hs.lt)⟩
  · exact .inr h
def TabS (W : World) (base : Nat) (v : Value) (L : List (List Int)) : Prop :=
  ∃ vs, W.ownsRow base 30 1 v L.length vs ∧ ∀ j (hj : j < L.length), ∃ u, vs[j]? = some u ∧ RowS W u L[j]
theorem TabS.nil (W : World) (base : Nat) : TabS W base (.slice none 0 0) [] := ⟨[], World.ownsRow_nil _ _ _ _, fun j hj => by simp at hj⟩
theorem TabS.below {W W' : World} {base : Nat} {v : Value} {L : List (List Int)} (h : TabS W base v L) (hb : Below W.heap.size W W') : TabS W' base v L := by
  obtain ⟨vs, h1, h2⟩ := h
  refine ⟨vs, own_below h1 hb, fun j hj => ?_⟩
  obtain ⟨u, hu, hr⟩ := h2 j hj
  exact ⟨u, hu, hr.below hb⟩
theorem TabS.snoc {W w1 w3 : World} {base : Nat} {v v' u : Value} {L : List (List Int)} {r : List Int} {vs : List Value} (h1 : W.ownsRow base 30 1 v L.length vs)
    (h2 : ∀ j (hj : j < L.length), ∃ u, vs[j]? = some u ∧ RowS W u L[j]) (hb : Below W.heap.size W w1) (hr : RowS w1 u r) (hg : w1.grownBy w3 v.ownBlock)
    (ho' : w3.ownsRow base 30 1 v' (L.length + 1) (vs ++ [u])) : TabS w3 base v' (L ++ [r]) := by
  have hlen : vs.length = L.length := by have := h1.1; omega
  have hown : ∀ b, v.ownBlock = some b → ∃ c f, w1.heap[b]? = some (.cells c 30 f) := by
    intro b hb'
    rcases h1.2 with ⟨rfl, _⟩ | ⟨g, cap, cur, rfl, hbg, hgg, _⟩
    · simp [Value.ownBlock] at hb'
    · obtain rfl : g = b := by simpa [Value.ownBlock] using hb'
      exact ⟨cur, _, (hb.block g (Array.getElem?_eq_some_iff.1 hgg).1).trans hgg⟩
  have hold : ∀ b l, SpRow w1 b l → SpRow w3 b l := by
    intro b l hs
    refine hs.keep (hg.block b hs.lt ?_)
    intro e
    obtain ⟨c, f, hc⟩ := hown b e.symm
    obtain ⟨sp, hs⟩ := hs
    rw [hs] at hc
    simp at hc
  have hup : ∀ u l, RowS w1 u l → RowS w3 u l := by
    rintro u l (⟨g, c, rfl, hs⟩ | h)
    · exact .inl ⟨g, c, rfl, hold _ _ hs⟩
    · exact .inr h
  refine ⟨vs ++ [u], by simpa using ho', fun j hj => ?_⟩
  simp only [List.length_append, List.length_cons, List.length_nil, Nat.zero_add] at hj
  by_cases hjl : j < L.length
  · obtain ⟨u', hu', hr'⟩ := h2 j hjl
    rw [List.getElem_append_left hjl]
    exact ⟨u', by rw [List.getElem?_append_left (by omega)]; exact hu', hup _ _ (hr'.below hb)⟩
  · obtain rfl : j = L.length := by omega
    rw [List.getElem_append_right (Nat.le_refl _)]
    simp only [Nat.sub_self, List.getElem_cons_zero]
    exact ⟨u, by rw [List.getElem?_append_right (by omega), hlen]; simp, hup _ _ hr⟩
theorem TabS.at {W : World} {base n : Nat} {v : Value} {L : List (List Int)} (h : TabS W base v L) (hl : L.length = n) {i : Nat} (hi : i < n) :
    ∃ g0 cap u, v = .slice (some ⟨g0, 0, none⟩) n cap ∧ base ≤ g0 ∧ g0 < W.heap.size ∧ W.cell? ⟨g0, i, none⟩ = some u ∧ RowS W u (L[i]?.getD []) ∧ W.frozen? ⟨g0, i, none⟩ = false ∧
      ∀ u' r, RowS W u' r → TabS (W.setCell ⟨g0, i, none⟩ u') base v (L.set i r) ∧ ∀ k, k ≠ g0 → (W.setCell ⟨g0, i, none⟩ u').heap[k]? = W.heap[k]? := by
  subst hl
  obtain ⟨vs, h1, h2⟩ := h
  obtain ⟨u, hu, hr⟩ := h2 i hi
  rcases h1.2 with ⟨rfl, h0⟩ | ⟨g0, cap, cur, rfl, hbg, hgg, hnc, hcm, hsz, htk⟩
  · omega
  have hcell := World.ownsRow.cellAt (w := W) (base := base) (e := 30) (size := 1) (g := g0) (n := L.length) (cap := cap) (xs := vs) h1 i (by omega)
  have hvl : vs.length = L.length := by have := h1.1; omega
  refine ⟨g0, cap, u, rfl, hbg, (Array.getElem?_eq_some_iff.1 hgg).1, by rw [hcell]; exact hu, by rw [List.getElem?_eq_getElem hi]; exact hr, by simp [World.frozen?, hgg], ?_⟩
  intro u' r hr'
  have hkeep : ∀ k, k ≠ g0 → (W.setCell ⟨g0, i, none⟩ u').heap[k]? = W.heap[k]? := fun k hk => Below.heap_setCell _ _ _ _ hk
  have hup : ∀ u l, RowS W u l → RowS (W.setCell ⟨g0, i, none⟩ u') u l := by
    rintro u l (⟨g, c, rfl, hs⟩ | h)
    · refine .inl ⟨g, c, rfl, hs.keep (hkeep g ?_)⟩
      rintro rfl
      obtain ⟨sp, hs⟩ := hs
      rw [hgg] at hs
      cases hs
    · exact .inr h
  have hb2 : (W.setCell ⟨g0, i, none⟩ u').heap[g0]? = some (.cells (cur.setIfInBounds i u') 30 (0, 0)) := cells_set hgg i u'
  refine ⟨⟨vs.set i u', ⟨by simpa using h1.1, .inr ⟨g0, cap, cur.setIfInBounds i u', by simp, hbg, hb2, by simpa using hnc, hcm, by simpa using hsz, ?_⟩⟩, fun j hj => ?_⟩, hkeep⟩
  · rw [← htk]
    simp only [Array.toList_setIfInBounds, List.length_set, Nat.mul_one]
    rw [List.take_set]
  · have hj' : j < L.length := by simpa using hj
    by_cases e : i = j
    · subst e
      exact ⟨u', by simp [hvl, hj'], by simpa using hup _ _ hr'⟩
    · obtain ⟨u2, hu2, hr2⟩ := h2 j hj'
      exact ⟨u2, by rw [List.getElem?_set_ne e]; exact hu2, by rw [List.getElem_set_ne e]; exact hup _ _ hr2⟩
end

section
open Go.RowKit
set_option linter.unusedVariables false

theorem RowS.slice {W : World} {v : Value} {l : List Int} (h : RowS W v l) : ∃ a c, v = .slice a l.length c := by
  rcases h with ⟨g, c, rfl, _⟩ | ⟨rfl, a, c, rfl⟩
  · exact ⟨_, _, rfl⟩
  · exact ⟨_, _, rfl⟩
end

section
open Go.RowKit
set_option linter.unusedVariables false

def RowN (N : Option Nat) (W : World) (v : Value) (l : List Int) : Prop :=
  (∃ g c, v = .slice (some ⟨g, 0, none⟩) l.length c ∧ SpRow W g l ∧ N ≠ some g) ∨ (l = [] ∧ ∃ a c, v = .slice a 0 c)
theorem RowN.row {N : Option Nat} {W : World} {v : Value} {l : List Int} (h : RowN N W v l) : RowS W v l := by
  rcases h with ⟨g, c, e, hs, _⟩ | h
  · exact .inl ⟨g, c, e, hs⟩
  · exact .inr h
def KeepN (N : Option Nat) (W W' : World) : Prop := ∀ k c, W.heap[k]? = some (.cells c 3 (0, 0)) → N ≠ some k → W'.heap[k]? = W.heap[k]?
theorem RowN.keep {N : Option Nat} {W W' : World} {v : Value} {l : List Int} (h : RowN N W v l) (hk : KeepN N W W') : RowN N W' v l := by
  rcases h with ⟨g, c, e, hs, hne⟩ | h
  · refine .inl ⟨g, c, e, ?_, hne⟩
    obtain ⟨sp, hs'⟩ := id hs
    exact hs.keep (hk g _ hs' hne)
  · exact .inr h
theorem KeepN.below {N : Option Nat} {W W' : World} (hb : Below W.heap.size W W') : KeepN N W W' := fun k c h _ => hb.block k (Array.getElem?_eq_some_iff.1 h).1
def TabN (N : Option Nat) (W : World) (base : Nat) (v : Value) (L : List (List Int)) : Prop :=
  ∃ vs, W.ownsRow base 30 1 v L.length vs ∧ ∀ j (hj : j < L.length), ∃ u, vs[j]? = some u ∧ RowN N W u L[j]
theorem TabN.nil (N : Option Nat) (W : World) (base : Nat) : TabN N W base (.slice none 0 0) [] := ⟨[], World.ownsRow_nil _ _ _ _, fun j hj => by simp at hj⟩
theorem own_kept {W W' : World} {base size n : Nat} {T : TypeId} {v : Value} {xs : List Value} (h : W.ownsRow base T size v n xs) (hk : ∀ k, v.ownBlock = some k → k < W.heap.size → W'.heap[k]? = W.heap[k]?) : W'.ownsRow base T size v n xs := by
  refine ⟨h.1, ?_⟩
  rcases h.2 with hn | ⟨g, cap, cur, rfl, hbg, hgg, rest⟩
  · exact .inl hn
  · exact .inr ⟨g, cap, cur, rfl, hbg, (hk g rfl (Array.getElem?_eq_some_iff.1 hgg).1).trans hgg, rest⟩
theorem own_low {W : World} {base b0 size n : Nat} {T : TypeId} {v : Value} {xs : List Value} (h : W.ownsRow base T size v n xs) (hb : b0 ≤ base) : W.ownsRow b0 T size v n xs := by
  refine ⟨h.1, ?_⟩
  rcases h.2 with hn | ⟨g, cap, cur, rfl, hbg, rest⟩
  · exact .inl hn
  · exact .inr ⟨g, cap, cur, rfl, Nat.le_trans hb hbg, rest⟩
theorem own_type {W : World} {base size n k : Nat} {T : TypeId} {v : Value} {xs : List Value} (h : W.ownsRow base T size v n xs) (hk : v.ownBlock = some k) : base ≤ k ∧ ∃ c, W.heap[k]? = some (.cells c T (0, 0)) := by
  rcases h.2 with ⟨rfl, _⟩ | ⟨g, cap, cur, rfl, hbg, hgg, _⟩
  · simp [Value.ownBlock] at hk
  · obtain rfl : g = k := by simpa [Value.ownBlock] using hk
    exact ⟨hbg, cur, hgg⟩
theorem TabN.type {N : Option Nat} {W : World} {base k : Nat} {v : Value} {L : List (List Int)} (h : TabN N W base v L) (hk : v.ownBlock = some k) : base ≤ k ∧ k < W.heap.size ∧ ∃ c, W.heap[k]? = some (.cells c 30 (0, 0)) := by
  obtain ⟨vs, h1, _⟩ := h
  obtain ⟨h2, c, h3⟩ := own_type h1 hk
  exact ⟨h2, (Array.getElem?_eq_some_iff.1 h3).1, c, h3⟩
theorem TabN.low {N : Option Nat} {W : World} {base b0 : Nat} {v : Value} {L : List (List Int)} (h : TabN N W base v L) (hb : b0 ≤ base) : TabN N W b0 v L := by
  obtain ⟨vs, h1, h2⟩ := h
  exact ⟨vs, own_low h1 hb, h2⟩
theorem TabN.keep {N : Option Nat} {W W' : World} {base : Nat} {v : Value} {L : List (List Int)} (h : TabN N W base v L) (hk : KeepN N W W') (ho : ∀ k, v.ownBlock = some k → k < W.heap.size → W'.heap[k]? = W.heap[k]?) : TabN N W' base v L := by
  obtain ⟨vs, h1, h2⟩ := h
  refine ⟨vs, own_kept h1 ho, fun j hj => ?_⟩
  obtain ⟨u, hu, hr⟩ := h2 j hj
  exact ⟨u, hu, hr.keep hk⟩
theorem TabN.below {N : Option Nat} {W W' : World} {base : Nat} {v : Value} {L : List (List Int)} (h : TabN N W base v L) (hb : Below W.heap.size W W') : TabN N W' base v L :=
  h.keep (KeepN.below hb) fun k _ hk => hb.block k hk
theorem TabN.other {N N' : Option Nat} {W : World} {base : Nat} {v : Value} {L : List (List Int)} (h : TabN N W base v L) (hN : N' = N ∨ N' = some W.heap.size) : TabN N' W base v L := by
  obtain ⟨vs, h1, h2⟩ := h
  refine ⟨vs, h1, fun j hj => ?_⟩
  obtain ⟨u, hu, hr⟩ := h2 j hj
  refine ⟨u, hu, ?_⟩
  rcases hr with ⟨g, c, e, hs, hne⟩ | hr
  · refine .inl ⟨g, c, e, hs, ?_⟩
    rcases hN with rfl | rfl
    · exact hne
    · intro e
      have h1 : W.heap.size = g := by simpa using e
      have := hs.lt
      omega
  · exact .inr hr
theorem TabN.piv {W W' : World} {base b2 n : Nat} {v p p' : Value} {xs : List Value} {L : List (List Int)} (h : TabN p.ownBlock W base v L) (hg : W.grownBy W' p.ownBlock) (hat : p'.ownBlock = p.ownBlock ∨ p'.ownBlock = some W.heap.size)
    (hP : W.ownsRow b2 3 1 p n xs) : TabN p'.ownBlock W' base v L := by
  have h1 : TabN p.ownBlock W' base v L := by
    refine h.keep (fun k c hk hne => hg.block k (Array.getElem?_eq_some_iff.1 hk).1 (fun e => hne e.symm)) fun k hk hlt => hg.block k hlt fun e => ?_
    obtain ⟨_, _, c, hc⟩ := h.type hk
    obtain ⟨_, c2, hc2⟩ := own_type hP e.symm
    rw [hc] at hc2
    cases hc2
  have hlt : ∀ u l, RowN p.ownBlock W u l → RowN p'.ownBlock W' u l := by
    intro u l hr
    rcases hr with ⟨g, c, e, hs, hne⟩ | hr
    · refine .inl ⟨g, c, e, ?_, ?_⟩
      · obtain ⟨sp, hs'⟩ := id hs
        exact hs.keep (hg.block g hs.lt (fun e => hne e.symm))
      · rcases hat with hat | hat
        · rw [hat]; exact hne
        · rw [hat]; intro e
          have h1 : W.heap.size = g := by simpa using e
          have := hs.lt
          omega
    · exact .inr hr
  obtain ⟨vs, h2, h3⟩ := h
  obtain ⟨vs', h4, _⟩ := h1
  refine ⟨vs, own_kept h2 fun k hk hlt' => hg.block k hlt' fun e => ?_, fun j hj => ?_⟩
  · obtain ⟨_, c, hc⟩ := own_type h2 hk
    obtain ⟨_, c2, hc2⟩ := own_type hP e.symm
    rw [hc] at hc2
    cases hc2
  · obtain ⟨u, hu, hr⟩ := h3 j hj
    exact ⟨u, hu, hlt _ _ hr⟩
theorem TabN.beside {N : Option Nat} {W W' : World} {base : Nat} {v : Value} {L : List (List Int)} (h : TabN N W base v L) {g0 : Option Nat} (hk : ∀ k, k < W.heap.size → g0 ≠ some k → W'.heap[k]? = W.heap[k]?)
    (hg : ∀ k, g0 = some k → ∃ c, W.heap[k]? = some (.cells c 30 (0, 0))) (hne : ∀ k, g0 = some k → v.ownBlock ≠ some k) : TabN N W' base v L := by
  refine h.keep (fun k c hc hn => hk k (Array.getElem?_eq_some_iff.1 hc).1 fun e => ?_) fun k hv hlt => hk k hlt fun e => hne k e hv
  obtain ⟨c2, h2⟩ := hg k e
  rw [h2] at hc
  cases hc
theorem TabN.snoc {N : Option Nat} {w1 w3 : World} {base : Nat} {v v' u : Value} {L : List (List Int)} {r : List Int} {vs : List Value} (h1 : w1.ownsRow base 30 1 v L.length vs)
    (h2 : ∀ j (hj : j < L.length), ∃ u, vs[j]? = some u ∧ RowN N w1 u L[j]) (hr : RowN N w1 u r) (hg : w1.grownBy w3 v.ownBlock)
    (ho' : w3.ownsRow base 30 1 v' (L.length + 1) (vs ++ [u])) : TabN N w3 base v' (L ++ [r]) := by
  have hlen : vs.length = L.length := by have := h1.1; omega
  have hK : KeepN N w1 w3 := fun k c hc hn => hg.block k (Array.getElem?_eq_some_iff.1 hc).1 fun e => by
    obtain ⟨_, c2, h2⟩ := own_type h1 e.symm
    rw [h2] at hc
    cases hc
  refine ⟨vs ++ [u], by simpa using ho', fun j hj => ?_⟩
  simp only [List.length_append, List.length_cons, List.length_nil, Nat.zero_add] at hj
  by_cases hjl : j < L.length
  · obtain ⟨u', hu', hr'⟩ := h2 j hjl
    rw [List.getElem_append_left hjl]
    exact ⟨u', by rw [List.getElem?_append_left (by omega)]; exact hu', hr'.keep hK⟩
  · obtain rfl : j = L.length := by omega
    rw [List.getElem_append_right (Nat.le_refl _)]
    simp only [Nat.sub_self, List.getElem_cons_zero]
    exact ⟨u, by rw [List.getElem?_append_right (by omega), hlen]; simp, hr.keep hK⟩
theorem TabN.at {N : Option Nat} {W : World} {base n : Nat} {v : Value} {L : List (List Int)} (h : TabN N W base v L) (hl : L.length = n) {i : Nat} (hi : i < n) :
    ∃ g0 cap u, v = .slice (some ⟨g0, 0, none⟩) n cap ∧ base ≤ g0 ∧ g0 < W.heap.size ∧ (∃ c, W.heap[g0]? = some (.cells c 30 (0, 0))) ∧ W.cell? ⟨g0, i, none⟩ = some u ∧ RowN N W u (L[i]?.getD []) ∧ W.frozen? ⟨g0, i, none⟩ = false ∧
      ∀ u' r, RowN N W u' r → TabN N (W.setCell ⟨g0, i, none⟩ u') base v (L.set i r) ∧ ∀ k, k ≠ g0 → (W.setCell ⟨g0, i, none⟩ u').heap[k]? = W.heap[k]? := by
  subst hl
  obtain ⟨vs, h1, h2⟩ := h
  obtain ⟨u, hu, hr⟩ := h2 i hi
  rcases h1.2 with ⟨rfl, h0⟩ | ⟨g0, cap, cur, rfl, hbg, hgg, hnc, hcm, hsz, htk⟩
  · omega
  have hcell := World.ownsRow.cellAt (w := W) (base := base) (e := 30) (size := 1) (g := g0) (n := L.length) (cap := cap) (xs := vs) h1 i (by omega)
  have hvl : vs.length = L.length := by have := h1.1; omega
  refine ⟨g0, cap, u, rfl, hbg, (Array.getElem?_eq_some_iff.1 hgg).1, ⟨cur, hgg⟩, by rw [hcell]; exact hu, by rw [List.getElem?_eq_getElem hi]; exact hr, by simp [World.frozen?, hgg], ?_⟩
  intro u' r hr'
  have hkeep : ∀ k, k ≠ g0 → (W.setCell ⟨g0, i, none⟩ u').heap[k]? = W.heap[k]? := fun k hk => Below.heap_setCell _ _ _ _ hk
  have hK : KeepN N W (W.setCell ⟨g0, i, none⟩ u') := fun k c hc hn => hkeep k fun e => by
    subst e
    rw [hgg] at hc
    cases hc
  have hb2 : (W.setCell ⟨g0, i, none⟩ u').heap[g0]? = some (.cells (cur.setIfInBounds i u') 30 (0, 0)) := cells_set hgg i u'
  refine ⟨⟨vs.set i u', ⟨by simpa using h1.1, .inr ⟨g0, cap, cur.setIfInBounds i u', by simp, hbg, hb2, by simpa using hnc, hcm, by simpa using hsz, ?_⟩⟩, fun j hj => ?_⟩, hkeep⟩
  · rw [← htk]
    simp only [Array.toList_setIfInBounds, List.length_set, Nat.mul_one]
    rw [List.take_set]
  · have hj' : j < L.length := by simpa using hj
    by_cases e : i = j
    · subst e
      exact ⟨u', by simp [hvl, hj'], by simpa using hr'.keep hK⟩
    · obtain ⟨u2, hu2, hr2⟩ := h2 j hj'
      exact ⟨u2, by rw [List.getElem?_set_ne e]; exact hu2, by rw [List.getElem_set_ne e]; exact hr2.keep hK⟩
end

section
open Go.RowKit
set_option linter.unusedVariables false

def castL (l : List Nat) : List Int := l.map (fun j : Nat => (j : Int))
def RedI (w wr : World) (L : List (List Int)) (j : Nat) (l d p : Value) : Prop :=
  TabN p.ownBlock wr w.heap.size l (rRed L j).left ∧ TabN p.ownBlock wr w.heap.size d (rRed L j).done ∧ wr.ownsRow w.heap.size 3 1 p (rRed L j).piv.length ((castL (rRed L j).piv).map (Value.int .i64)) ∧ Below w.heap.size w wr
structure RedS (w : World) (R0 : Nat) (wr : World) (l d r q p : Value) (left done rest : List (List Int)) (P : List Int) (J : List Nat) : Prop where
  hl : TabN p.ownBlock wr w.heap.size l left
  hd : TabN p.ownBlock wr w.heap.size d done
  hr : TabN p.ownBlock wr R0 r rest
  hq : RowN p.ownBlock wr q P
  hp : wr.ownsRow w.heap.size 3 1 p J.length ((castL J).map (Value.int .i64))
  hb : Below w.heap.size w wr
  hR : R0 ≤ wr.heap.size
  hw : w.heap.size ≤ R0
  lR : ∀ k, l.ownBlock = some k → k < R0
  dR : ∀ k, d.ownBlock = some k → k < R0
  pR : ∀ k, p.ownBlock = some k → k < R0
theorem RedS.below {w : World} {R0 : Nat} {A B : World} {l d r q p : Value} {left done rest : List (List Int)} {P : List Int} {J : List Nat} (h : RedS w R0 A l d r q p left done rest P J) (hb : Below A.heap.size A B) : RedS w R0 B l d r q p left done rest P J :=
  ⟨h.hl.below hb, h.hd.below hb, h.hr.below hb, h.hq.keep (KeepN.below hb), own_below h.hp hb, chain h.hb hb, Nat.le_trans h.hR hb.size, h.hw, h.lR, h.dR, h.pR⟩
theorem TabN.lt {N : Option Nat} {W : World} {base : Nat} {v : Value} {L : List (List Int)} (h : TabN N W base v L) {k : Nat} (hk : v.ownBlock = some k) : k < W.heap.size := (h.type hk).2.1
theorem RedS.start {w wr : World} {L : List (List Int)} {j : Nat} {l d p q : Value} {P : List Int} (h : RedI w wr L j l d p) (hq : RowN p.ownBlock wr q P) : RedS w wr.heap.size wr l d (.slice none 0 0) q p (rRed L j).left (rRed L j).done [] P (rRed L j).piv :=
  ⟨h.1, h.2.1, TabN.nil _ _ _, hq, h.2.2.1, h.2.2.2, Nat.le_refl _, h.2.2.2.size, fun k hk => h.1.lt hk, fun k hk => h.2.1.lt hk, fun k hk => by
    obtain ⟨_, c, hc⟩ := own_type h.2.2.1 hk
    exact (Array.getElem?_eq_some_iff.1 hc).1⟩
theorem RedS.push {w : World} {R0 : Nat} {A B : World} {l d r q p u r' : Value} {left done rest : List (List Int)} {P x : List Int} {J : List Nat} {vs : List Value} (h : RedS w R0 A l d r q p left done rest P J)
    (h1 : A.ownsRow R0 30 1 r rest.length vs) (h2 : ∀ j (hj : j < rest.length), ∃ u, vs[j]? = some u ∧ RowN p.ownBlock A u rest[j]) (hu : RowN p.ownBlock A u x) (hg : A.grownBy B r.ownBlock)
    (ho : B.ownsRow R0 30 1 r' (rest.length + 1) (vs ++ [u])) : RedS w R0 B l d r' q p left done (rest ++ [x]) P J := by
  have hge : ∀ k, r.ownBlock = some k → R0 ≤ k := fun k hk => (own_type h1 hk).1
  have hgt : ∀ k, r.ownBlock = some k → ∃ c, A.heap[k]? = some (.cells c 30 (0, 0)) := fun k hk => (own_type h1 hk).2
  have hk : ∀ k, k < A.heap.size → r.ownBlock ≠ some k → B.heap[k]? = A.heap[k]? := fun k hlt hne => hg.block k hlt fun e => hne e.symm
  have hK : KeepN p.ownBlock A B := fun k c hc _ => hk k (Array.getElem?_eq_some_iff.1 hc).1 fun e => by
    obtain ⟨c2, h2⟩ := hgt k e
    rw [h2] at hc; cases hc
  refine ⟨h.hl.beside hk hgt fun k e e2 => ?_, h.hd.beside hk hgt fun k e e2 => ?_, TabN.snoc h1 h2 hu hg ho, h.hq.keep hK, own_kept h.hp fun k e hlt => hk k hlt fun e2 => ?_, ?_, Nat.le_trans h.hR hg.size, h.hw, h.lR, h.dR, h.pR⟩
  · have := h.lR k e2; have := hge k e; omega
  · have := h.dR k e2; have := hge k e; omega
  · have := h.pR k e; have := hge k e2; omega
  · exact h.hb.grown hg (Nat.le_trans h.hw h.hR) fun k e => Nat.le_trans h.hw (hge k e)
end
end Go.Proofs.YtddcamcdjkiadaaGreatDoor

namespace Go.Proofs.YtddcamcdjkiadaaGreatDoor
open Go.RowKit
set_option linter.unusedVariables false

theorem RowN.sp {N : Option Nat} {X : World} {g n c : Nat} {P : List Int} (h : RowN N X (.slice (some ⟨g, 0, none⟩) n c) P) (h0 : 0 < P.length) : SpRow X g P := by
  rcases h with ⟨g', c', e, hs, _⟩ | ⟨rfl, _⟩
  · cases e; exact hs
  · simp at h0
theorem RedS.drop {w : World} {R0 : Nat} {A : World} {l d r q p : Value} {left done rest : List (List Int)} {P : List Int} {J : List Nat} (h : RedS w R0 A l d r q p left done rest P J) : RedS w R0 A (.slice none 0 0) d r q p [] done rest P J :=
  ⟨TabN.nil _ _ _, h.hd, h.hr, h.hq, h.hp, h.hb, h.hR, h.hw, fun k hk => by simp [Value.ownBlock] at hk, h.dR, h.pR⟩

end Go.Proofs.YtddcamcdjkiadaaGreatDoor

namespace Go.Proofs.YtddcamcdjkiadaaGreatDoor
open Go.RowKit
set_option linter.unusedVariables false

theorem pwithin_c (n lo hi : Int) (w : World) : Calls Tryz.prog 165 #[.int .i64 n, .int .i64 lo, .int .i64 hi] w fun e w' => e = .returned (.bool (inB n lo hi)) ∧ w = w' := by
  by_cases h1 : lo ≤ n <;> by_cases h2 : n ≤ hi
  all_goals
    go_enter Tryz.func165, Tryz.ntmps165
    go_wp2
    go_ret
    exact ⟨ret_bool (by simp [inB, h1, h2]), rfl⟩

theorem beyond1 (w : World) (b : Nat) (m : Int) (hm : 0 ≤ m ∧ m ≤ 1000000000) (hc : w.cell? ⟨b, 0, none⟩ = some (.int .i64 m)) (hb : b < w.heap.size) :
    PredI Tryz.prog 181 #[.pointer (some ⟨b, 0, none⟩)] w (fun n => !(inB n (-m) m)) := by
  intro x W hW
  have hc' : W.cell? ⟨b, 0, none⟩ = some (.int .i64 m) := (hW.cell (p := ⟨b, 0, none⟩) hb).trans hc
  obtain ⟨z, hz⟩ : ∃ z, z = -m := ⟨_, rfl⟩
  have hw : IntKind.i64.wrap (-m) = z := by rw [hz]; exact IntWalk.i64_in _ (by omega)
  rw [← hz]
  obtain ⟨B, hB⟩ : ∃ B, B = inB x z m := ⟨_, rfl⟩
  have HP := hid (pwithin_c x z m W)
  rw [← hB] at HP
  simp only [← hB]
  clear hB hc hz
  show Calls Tryz.prog 181 #[.int .i64 x, .pointer (some ⟨b, 0, none⟩)] W _
  go_enter Tryz.func181, Tryz.ntmps181
  go_wp2_with (go_at_call 165; refine HP.out.mono ?_; rintro e w1 ⟨rfl, rfl⟩)
  go_ret
  exact ⟨rfl, Below.refl _ _⟩

def milB (l : List Int) : Bool := l.all (fun n => inB n (-1000000) 1000000)

def dotV (r h : List Int) : Int := sm (fun c => vec r c * vec h c) r.length
theorem dot_le {r h : List Int} (hr : BndL 67108864 r) (hh : BndL 67108864 h) : ∀ k : Nat, (sm (fun c => vec r c * vec h c) k).natAbs ≤ k * 4503599627370496
  | 0 => by simp [sm]
  | k + 1 => by
    have h1 := dot_le hr hh k
    have h2 : (vec r k).natAbs ≤ 67108864 := by have := vec_mem (P := fun x => -((67108864 : Nat) : Int) ≤ x ∧ x ≤ ((67108864 : Nat) : Int)) (by decide) hr k; omega
    have h3 : (vec h k).natAbs ≤ 67108864 := by have := vec_mem (P := fun x => -((67108864 : Nat) : Int) ≤ x ∧ x ≤ ((67108864 : Nat) : Int)) (by decide) hh k; omega
    have h4 : (vec r k * vec h k).natAbs ≤ 67108864 * 67108864 := by rw [Int.natAbs_mul]; exact Nat.mul_le_mul h2 h3
    show (sm (fun c => vec r c * vec h c) k + vec r k * vec h k).natAbs ≤ _
    omega

end Go.Proofs.YtddcamcdjkiadaaGreatDoor

namespace Go.Proofs.YtddcamcdjkiadaaGreatDoor
open Go.RowKit
set_option linter.unusedVariables false

theorem any_mil (h : List Int) : h.any (fun n => !(inB n (-1000000) 1000000)) = !milB h := by unfold milB; rw [List.not_all_eq_any_not]
theorem beyond_c (w : World) (m : Int) : Calls Tryz.prog 174 #[.int .i64 m] w fun e w' => ∃ b, e = .returned (.func (.func 181) #[] #[.pointer (some ⟨b, 0, none⟩)]) ∧ w'.cell? ⟨b, 0, none⟩ = some (.int .i64 m) ∧ b < w'.heap.size ∧ Below w.heap.size w w' := by
  go_enter Tryz.func174, Tryz.ntmps174
  go_wp2
  go_ret
  exact ⟨w.heap.size, rfl, by rw [World.cell?_alloc_at _ _ _ _ rfl]; rfl, by simp, (Below.refl _ _).alloc (Nat.le_refl _) _⟩

end Go.Proofs.YtddcamcdjkiadaaGreatDoor

namespace Go.Proofs.YtddcamcdjkiadaaGreatDoor
open Go.RowKit
set_option linter.unusedVariables false

def Marks (b : Nat) : Nat → List Deferred → World → Prop
  | _, [], _ => True
  | top, d :: ds, w => ∃ h, b ≤ h ∧ h < top ∧ d = { target := .collected h, args := #[] } ∧ w.heap[h]? = some (.deferred (some [])) ∧ Marks b h ds w

theorem Marks.keep {b : Nat} {S : Nat → Prop} {A B : World} (hk : Keep S A B) : ∀ {top : Nat} {D : List Deferred}, (∀ k, k < A.heap.size → b ≤ k → k < top → A.heap[k]? = some (.deferred (some [])) → S k) → Marks b top D A → Marks b top D B
  | _, [], _, _ => trivial
  | top, d :: ds, hS, h => by
    obtain ⟨k, h1, h2, h3, h4, h5⟩ := h
    have hlt := (Array.getElem?_eq_some_iff.1 h4).1
    exact ⟨k, h1, h2, h3, (hk.block k hlt (hS k hlt h1 h2 h4)).trans h4, Marks.keep hk (fun q hq hb hqk => hS q hq hb (by omega)) h5⟩
theorem Marks.lt {b : Nat} {A : World} : ∀ {top : Nat} {D : List Deferred}, Marks b top D A → Marks b A.heap.size D A
  | _, [], _ => trivial
  | top, d :: ds, ⟨k, h1, h2, h3, h4, h5⟩ => ⟨k, h1, (Array.getElem?_eq_some_iff.1 h4).1, h3, h4, h5⟩
theorem Marks.up {b top t2 : Nat} {D : List Deferred} {A : World} (h : Marks b top D A) (ht : top ≤ t2) : Marks b t2 D A := by
  cases D with
  | nil => trivial
  | cons d ds =>
    obtain ⟨k, h1, h2, h3⟩ := h
    exact ⟨k, h1, by omega, h3⟩
theorem Marks.below {b k top : Nat} {D : List Deferred} {A : World} (hk : top ≤ k) : ∀ (o : Obj), Marks b top D A → Marks b top D (A.putObj k o) := fun o h => by
  induction D generalizing top with
  | nil => trivial
  | cons d ds ih =>
    obtain ⟨q, h1, h2, h3, h4, h5⟩ := h
    exact ⟨q, h1, h2, h3, (World.putObj_heap_other (by omega)).trans h4, ih (by omega) h5⟩

end Go.Proofs.YtddcamcdjkiadaaGreatDoor

namespace Go.Proofs.YtddcamcdjkiadaaGreatDoor
open Go.RowKit
set_option linter.unusedVariables false
attribute [local go_sem] Oper.semAt_some

theorem RowsO.lt {E T : TypeId} {W : World} {base : Nat} {S : Nat → Prop} {v : Value} {ls : List (List Int)} (h : RowsO E T W base S v ls) : RowsO E T W base (fun b => S b ∧ b < W.heap.size) v ls := by
  obtain ⟨vs, ho, hg, he⟩ := h
  refine ⟨vs, ho, fun k hk => ⟨hg k hk, (ho.lt k hk).2⟩, fun j hj => ?_⟩
  obtain ⟨u, hu, a, n, cap, e, hn, hm, hel⟩ := he j hj
  refine ⟨u, hu, a, n, cap, e, hn, hm, fun i hi => ?_⟩
  obtain ⟨b, off, e, hS, hlt, rest⟩ := hel i hi
  exact ⟨b, off, e, ⟨hS, hlt⟩, hlt, rest⟩
theorem RowsO.mono {E T : TypeId} {W : World} {base : Nat} {S S' : Nat → Prop} {v : Value} {ls : List (List Int)} (h : RowsO E T W base S v ls) (hs : ∀ b, S b → S' b) : RowsO E T W base S' v ls := by
  obtain ⟨vs, ho, hg, he⟩ := h
  refine ⟨vs, ho, fun k hk => hs _ (hg k hk), fun j hj => ?_⟩
  obtain ⟨u, hu, a, n, cap, e, hn, hm, hel⟩ := he j hj
  refine ⟨u, hu, a, n, cap, e, hn, hm, fun i hi => ?_⟩
  obtain ⟨b, off, e, hS, hlt, rest⟩ := hel i hi
  exact ⟨b, off, e, hs _ hS, hlt, rest⟩
theorem comb_count : ∀ (m k : Nat) (a : Int), (comb m k a).length ≤ 2 ^ m
  | 0, 0, a => Nat.le_refl _
  | m + 1, 0, a => Nat.one_le_two_pow
  | 0, k + 1, a => by simp [comb]
  | m + 1, k + 1, a => by
    simp only [comb, List.length_append, List.length_map]
    have h1 := comb_count m k (a + 1)
    have h2 := comb_count m (k + 1) (a + 1)
    rw [Nat.pow_succ]; omega
theorem ints_row {W : World} {it : Nat} {x : List Int} {sp : List Value} {E : TypeId} (h : W.heap[it]? = some (.cells (x.map (Value.int .i64) ++ sp).toArray E (0, 0))) : IntsAt W (some ⟨it, 0, none⟩) x := by
  intro j hj
  refine ⟨it, 0, rfl, (Array.getElem?_eq_some_iff.1 h).1, ?_⟩
  rw [Nat.zero_add]
  simp [World.cell?, h, List.getElem?_append_left, hj]
theorem ElemI.sp {W : World} {base g cap : Nat} {S : Nat → Prop} {l : List Int} (h : SpRow W g l) (hm : l.length ≤ maxLen) (hS : S g) : ElemI 3 W base S (.slice (some ⟨g, 0, none⟩) l.length cap) l := by
  refine ⟨_, _, cap, rfl, rfl, hm, fun j hj => ⟨g, 0, rfl, hS, h.lt, ?_, ?_⟩⟩
  · obtain ⟨sp, h⟩ := h
    exact .inr ⟨_, _, h⟩
  · rw [Nat.zero_add]; exact h.cell hj
def SIt (o Z it b : Nat) : Prop := b ≠ o ∧ b ≠ Z ∧ b ≠ Z + 1 ∧ b ≠ Z + 2 ∧ b ≠ Z + 3 ∧ b ≠ it

def CircI (w : World) (q1 q6 q7 base Z it : Nat) (mv : Value) (W : Nat) (D : List Deferred) (L : List (List Int)) (Y : World) : Prop :=
  ∃ v, Boxed Y q1 35 mv ∧ Boxed Y q6 3 (.int .i64 W) ∧ Boxed Y q7 34 v ∧ Below w.heap.size w Y ∧ Z + 2 ≤ Y.heap.size ∧ RowsO 3 30 Y base (SIt q7 Z it) v L ∧ Marks base Z D Y ∧ (∃ u, Boxed Y Z 3 u) ∧ ∃ u, Boxed Y (Z + 1) 3 u
theorem CircI.keep {w : World} {q1 q6 q7 base Z it it2 : Nat} {mv : Value} {W : Nat} {D : List Deferred} {L : List (List Int)} {A B : World} (h : CircI w q1 q6 q7 base Z it mv W D L A) (hk : Keep (fun k => k ≠ Z + 2 ∧ k ≠ Z + 2 + 1 ∧ k ≠ it2) A B)
    (h1 : q1 < Z) (h6 : q6 < Z) (h7 : q7 < Z) (hw : w.heap.size ≤ Z) (hi : Z + 4 ≤ it2) (e : it = it2) : CircI w q1 q6 q7 base Z it mv W D L B := by
  subst e
  obtain ⟨v, y1, y6, y7, yB, yS, yR, yD, ⟨u0, z0⟩, u1, z1⟩ := h
  refine ⟨v, (hk.block _ y1.lt (by omega)).trans y1, (hk.block _ y6.lt (by omega)).trans y6, (hk.block _ y7.lt (by omega)).trans y7, hk.below yB (by omega) (fun k _ => by omega), Nat.le_trans yS hk.size,
              yR.keep (hk.mono fun k hk => ⟨hk.2.2.2.1, hk.2.2.2.2.1, hk.2.2.2.2.2⟩), yD.keep hk (fun k _ _ hk _ => by omega), ⟨u0, (hk.block _ z0.lt (by omega)).trans z0⟩, u1, (hk.block _ z1.lt (by omega)).trans z1⟩
theorem CircI.below {w : World} {q1 q6 q7 base Z it : Nat} {mv : Value} {W : Nat} {D : List Deferred} {L : List (List Int)} {A B : World} (h : CircI w q1 q6 q7 base Z it mv W D L A) (hb : Below A.heap.size A B) : CircI w q1 q6 q7 base Z it mv W D L B := by
  obtain ⟨v, y1, y6, y7, yB, yS, yR, yD, ⟨u0, z0⟩, u1, z1⟩ := h
  exact ⟨v, (hb.block _ y1.lt).trans y1, (hb.block _ y6.lt).trans y6, (hb.block _ y7.lt).trans y7, chain yB hb, Nat.le_trans yS hb.size, yR.keep (Keep.of_below hb), Marks.keep (Keep.of_below hb : Keep (fun _ => True) A B) (fun _ _ _ _ _ => trivial) yD, ⟨u0, (hb.block _ z0.lt).trans z0⟩, u1, (hb.block _ z1.lt).trans z1⟩
theorem CircI.start {w X wL : World} {q1 q6 q7 base : Nat} {mv v : Value} {W : Nat} {D : List Deferred} {L : List (List Int)} (y1 : Boxed X q1 35 mv) (y6 : Boxed X q6 3 (.int .i64 W)) (y7 : Boxed X q7 34 v) (yB : Below w.heap.size w X)
    (yR : RowsO 3 30 X base (fun b => b ≠ q7) v L) (yD : Marks base X.heap.size D X) (hb : Below X.heap.size X wL) (hs : wL.heap.size = X.heap.size + 2) (z0 : ∃ u, Boxed wL X.heap.size 3 u) (z1 : ∃ u, Boxed wL (X.heap.size + 1) 3 u) (it : Nat) (hi : X.heap.size + 4 ≤ it) : CircI w q1 q6 q7 base X.heap.size it mv W D L wL := by
  refine ⟨v, (hb.block _ y1.lt).trans y1, (hb.block _ y6.lt).trans y6, (hb.block _ y7.lt).trans y7, chain yB hb, by omega, ?_, Marks.keep (Keep.of_below hb : Keep (fun _ => True) X wL) (fun _ _ _ _ _ => trivial) yD, z0, z1⟩
  exact (yR.lt.mono fun q hq => ⟨hq.1, by have := hq.2; omega, by have := hq.2; omega, by have := hq.2; omega, by have := hq.2; omega, by have := hq.2; omega⟩ : RowsO 3 30 X base (SIt q7 X.heap.size it) v L).keep (Keep.of_below hb)
theorem meas2 {n k : Nat} (h : k < n) : n - (intOf (.int .i64 ((k + 1 : Nat) : Int))).toNat < n - (intOf (.int .i64 (k : Int))).toNat := by simp [intOf]; omega

end Go.Proofs.YtddcamcdjkiadaaGreatDoor

namespace Go.Proofs.YtddcamcdjkiadaaGreatDoor
open Go.RowKit
set_option linter.unusedVariables false

def CircRes (p : List Int × Int) (e : Ending) (w : World) : Prop := ∃ b k c, e = .returned (.tuple #[.slice b k c, .int .i64 p.2]) ∧ p.1.length = k ∧ k ≤ maxLen ∧ IntsAt w b p.1
theorem CircRes.nil (z : Int) (w : World) : CircRes ([], z) (.returned (.tuple #[.slice none 0 0, .int .i64 z])) w := ⟨none, 0, 0, rfl, rfl, Nat.zero_le _, fun j hj => by simp at hj⟩

end Go.Proofs.YtddcamcdjkiadaaGreatDoor

namespace Go.Proofs.YtddcamcdjkiadaaGreatDoor
section
open Go.RowKit
set_option linter.unusedVariables false

end

section
open Go.RowKit
set_option linter.unusedVariables false

def ascB (l : List Int) : Bool := decide (∀ i, i < l.length - 1 → l[i]?.getD 0 < l[i + 1]?.getD 0)
def namedE (W : Nat) (l : List Int) : Int := if ascB l = true then (if l.all (fun p => inB p 0 ((W : Int) - 1)) = true then 0 else 5) else 7
def pixE (M : Mask) (l : List Int) : Int := if okM M = true then namedE (colsM M) l else 1
theorem asc_pair {l : List Int} (h : ascB l = true) : l.Pairwise (· < ·) := by
  have h1 : ∀ i, i < l.length - 1 → l[i]?.getD 0 < l[i + 1]?.getD 0 := of_decide_eq_true h
  have h2 : ∀ d i, i + d + 1 < l.length → l[i]?.getD 0 < l[i + d + 1]?.getD 0 := by
    intro d
    induction d with
    | zero => intro i hi; exact h1 i (by omega)
    | succ d ih => intro i hi; exact Int.lt_trans (ih i (by omega)) (h1 (i + d + 1) (by omega))
  rw [List.pairwise_iff_getElem]
  intro i j hi hj hij
  have := h2 (j - i - 1) i (by omega)
  rw [show i + (j - i - 1) + 1 = j by omega, List.getElem?_eq_getElem hi, List.getElem?_eq_getElem hj] at this
  exact this
theorem asc_no {l : List Int} {k : Nat} (hk : k + 1 < l.length) (h : ¬ l[k]?.getD 0 < l[k + 1]?.getD 0) : ascB l = false := decide_eq_false fun h1 => h (h1 k (by omega))
theorem asc_yes {l : List Int} (h : ∀ i, i + 1 < l.length → l[i]?.getD 0 < l[i + 1]?.getD 0) : ascB l = true := decide_eq_true fun i hi => h i (by omega)
theorem named_ok {W : Nat} {l : List Int} (h : namedE W l = 0) : SetOk W l := by
  unfold namedE at h
  split at h
  · rename_i h1
    split at h
    · rename_i h2
      refine ⟨asc_pair h1, fun y hy => ?_⟩
      have := List.all_eq_true.1 h2 y hy
      unfold inB at this
      simp only [Bool.and_eq_true, decide_eq_true_eq] at this
      omega
    · omega
  · omega

theorem named1 (w : World) (b : Nat) (m : Int) (hm : 0 ≤ m ∧ m ≤ 1000000000) (hc : w.cell? ⟨b, 0, none⟩ = some (.int .i64 m)) (hb : b < w.heap.size) :
    PredI Tryz.prog 188 #[.pointer (some ⟨b, 0, none⟩)] w (fun n => !(inB n 0 (m - 1))) := by
  intro x W hW
  have hc' : W.cell? ⟨b, 0, none⟩ = some (.int .i64 m) := (hW.cell (p := ⟨b, 0, none⟩) hb).trans hc
  obtain ⟨z, hz⟩ : ∃ z, z = m - 1 := ⟨_, rfl⟩
  have hw : IntKind.i64.wrap (m - 1) = z := by rw [hz]; exact IntWalk.i64_in _ (by omega)
  rw [← hz]
  obtain ⟨B, hB⟩ : ∃ B, B = inB x 0 z := ⟨_, rfl⟩
  have HP := hid (pwithin_c x 0 z W)
  rw [← hB] at HP
  simp only [← hB]
  clear hB hc hz
  show Calls Tryz.prog 188 #[.int .i64 x, .pointer (some ⟨b, 0, none⟩)] W _
  go_enter Tryz.func188, Tryz.ntmps188
  go_wp2_with (go_at_call 165; refine HP.out.mono ?_; rintro e w1 ⟨rfl, rfl⟩)
  go_ret
  exact ⟨rfl, Below.refl _ _⟩

set_option maxHeartbeats 1000000 in
theorem named_c (w : World) (W : Nat) (hW : W ≤ 1000) (a : Option Addr) (n cap : Nat) (l : List Int) (hn : l.length = n) (hm : n ≤ maxLen) (H : IntsAt w a l) :
    Calls Tryz.prog 182 #[.int .i64 W, .slice a n cap] w fun e w' => e = .returned (.int .i64 (namedE W l)) ∧ Below w.heap.size w w' := by
  have HN := hid hn
  have HH := hid (fun (X : World) (hX : Below w.heap.size w X) => H.below hX)
  obtain ⟨E, hE⟩ : ∃ E, E = namedE W l := ⟨_, rfl⟩
  rw [← hE]
  have HE := hid hE
  clear hn H hE
  have hm' : n ≤ 9223372036854775807 := by unfold maxLen at hm; omega
  go_enter Tryz.func182, Tryz.ntmps182
  obtain ⟨w1, hw1⟩ : ∃ w1, w1 = w.alloc (.cells #[.int .i64 W] 3) := ⟨_, rfl⟩
  have hb1 : Below w.heap.size w w1 := by rw [hw1]; exact (Below.refl _ _).alloc (Nat.le_refl _) _
  have hc1 : w1.cell? ⟨w.heap.size, 0, none⟩ = some (.int .i64 W) := by rw [hw1, World.cell?_alloc_at _ _ _ _ rfl]; rfl
  have hs1 : w.heap.size < w1.heap.size := by rw [hw1]; simp
  have HB1 := hid hb1
  have HC1 := hid hc1
  have HW1 := hid hw1
  clear hb1 hc1 hw1
  go_wp2
  try rw [← HW1.out]
  go_loopw [9] (fun i wr => ∃ k : Nat, k ≤ n ∧ i = .int .i64 k ∧ wr = w1 ∧ Hid (∀ i, i + 1 < k → l[i]?.getD 0 < l[i + 1]?.getD 0)) (fun i _ => n - (intOf i).toNat)
  case atStart => exact ⟨0, Nat.zero_le _, rfl, by first | exact HW1.out.symm | rfl, hid (fun i h => by omega)⟩
  case round =>
    obtain ⟨k, hk, rfl, rfl, HNO⟩ := hrel
    by_cases hlt : k < n
    · have hkl : k < l.length := by rw [HN.out]; exact hlt
      obtain ⟨b, off, rfl, hbs, hc⟩ := (HH.out wr HB1.out) k hkl
      rcases Nat.eq_zero_or_pos k with h0 | h0
      · subst h0
        obtain ⟨x, hx⟩ : ∃ x, x = l[0]?.getD 0 := ⟨_, rfl⟩
        rw [← hx, Nat.add_zero] at hc
        clear hx hkl
        go_wp2
        exact ⟨⟨1, by omega, by go_num, by first | trivial | rfl, hid (fun i h => by omega)⟩, by simp [intOf]; omega⟩
      · obtain ⟨p, rfl⟩ : ∃ p, k = p + 1 := ⟨k - 1, by omega⟩
        obtain ⟨b', off', e', _, hc2⟩ := (HH.out wr HB1.out) p (by omega)
        cases e'
        have hpi : ((p + 1 : Nat) : Int) - 1 = (p : Int) := by omega
        have hpn : (p : Int) < (n : Int) := by omega
        have hpp : (0 : Int) < ((p + 1 : Nat) : Int) := by omega
        have HNO2 := hid (fun (h : ¬ l[p]?.getD 0 < l[p + 1]?.getD 0) => asc_no (by rw [HN.out]; exact hlt) h)
        have HNX := hid (fun (h : l[p]?.getD 0 < l[p + 1]?.getD 0) => (show ∀ i, i + 1 < p + 1 + 1 → l[i]?.getD 0 < l[i + 1]?.getD 0 from fun i hi => by
          rcases Nat.lt_or_ge i p with h1 | h1
          · exact HNO.out i (by omega)
          · have : i = p := by omega
            subst this; exact h))
        obtain ⟨x, hx⟩ : ∃ x, x = l[p + 1]?.getD 0 := ⟨_, rfl⟩
        obtain ⟨y, hy⟩ : ∃ x, x = l[p]?.getD 0 := ⟨_, rfl⟩
        rw [← hx] at hc HNO2 HNX
        rw [← hy] at hc2 HNO2 HNX
        clear hx hy hkl
        by_cases hle : x ≤ y
        · have HA := hid (HNO2.out (by omega))
          obtain rfl : E = 7 := by rw [HE.out]; unfold namedE; rw [HA.out]; rfl
          go_wp2
          go_ret
          exact ⟨rfl, HB1.out⟩
        · have HX := hid (HNX.out (by omega))
          go_wp2
          exact ⟨⟨p + 1 + 1, by omega, by go_num, by first | trivial | rfl, HX⟩, by simp [intOf]; omega⟩
    · obtain rfl : n = k := by omega
      have HA := hid (asc_yes (l := l) (fun i hi => HNO.out i (by rw [← HN.out]; exact hi)))
      have HCF := hid (containsI wr a n cap l HN.out hm (HH.out wr HB1.out) 188 #[.pointer (some ⟨w.heap.size, 0, none⟩)] (fun p => !(inB p 0 ((W : Int) - 1))) (enters_of Tryz.func188 (by kernel_rfl) rfl) (named1 wr w.heap.size W (by omega) HC1.out hs1))
      have hany : l.any (fun p => !(inB p 0 ((W : Int) - 1))) = !(l.all (fun p => inB p 0 ((W : Int) - 1))) := by rw [List.not_all_eq_any_not]
      rw [hany] at HCF
      have hee := HE.out
      unfold namedE at hee
      rw [if_pos HA.out] at hee
      clear hany HNO
      cases hall : l.all (fun p => inB p 0 ((W : Int) - 1))
      · rw [hall] at HCF hee
        obtain rfl : E = 5 := hee
        clear hall
        go_wp2_with (go_at_call 79; refine HCF.out.mono ?_; rintro e w3 ⟨rfl, hb3⟩)
        go_ret
        exact ⟨rfl, chain HB1.out hb3⟩
      · rw [hall] at HCF hee
        obtain rfl : E = 0 := hee
        clear hall
        go_wp2_with (go_at_call 79; refine HCF.out.mono ?_; rintro e w3 ⟨rfl, hb3⟩)
        go_ret
        exact ⟨rfl, chain HB1.out hb3⟩

theorem pixels_c (w : World) (a a2 : Option Addr) (n cap n2 cap2 : Nat) (M : Mask) (l : List Int) (hn : M.length = n) (hn2 : l.length = n2) (hm : n ≤ maxLen) (hm2 : n2 ≤ maxLen) (H : RowsAt w a M) (H2 : IntsAt w a2 l) :
    Calls Tryz.prog 175 #[.slice a n cap, .slice a2 n2 cap2] w fun e w' => e = .returned (.int .i64 (pixE M l)) ∧ Below w.heap.size w w' := by
  have HV := hid (maskValid_c w a n cap M hn hm H)
  cases hok : okM M
  · rw [hok] at HV
    have he : pixE M l = 1 := by unfold pixE; rw [hok]; rfl
    rw [he]
    clear hn hn2 H H2 hok he
    go_enter Tryz.func175, Tryz.ntmps175
    go_wp2_with (go_at_call 39; refine HV.out.mono ?_; rintro e w1 ⟨rfl, hb1⟩)
    go_ret
    exact ⟨rfl, hb1⟩
  · rw [hok] at HV
    have he : pixE M l = namedE (colsM M) l := by unfold pixE; rw [if_pos hok]
    rw [he]
    obtain ⟨hM, h1, h6, hc1, hc10⟩ := okM_ok hok
    obtain ⟨b, off, ra, rc, rfl, hb, hc⟩ := rows_head H (by omega)
    have hz : (0 : Int) < (n : Int) := by omega
    obtain ⟨W, hW⟩ : ∃ W, W = colsM M := ⟨_, rfl⟩
    rw [← hW] at hc hc1 hc10 ⊢
    have HS := hid (fun (X : World) (hX : Below w.heap.size w X) => (hX.cell (p := ⟨b, off, none⟩) hb).trans hc)
    have HNM := hid (fun (X : World) (hX : Below w.heap.size w X) => named_c X W (by omega) a2 n2 cap2 l hn2 hm2 (H2.below hX))
    obtain ⟨E, hE⟩ : ∃ E, E = namedE W l := ⟨_, rfl⟩
    rw [← hE] at HNM ⊢
    clear hn hn2 H H2 hok he hM hW hE hc hb
    go_enter Tryz.func175, Tryz.ntmps175
    go_wp2_with (go_at_call 39; refine HV.out.mono ?_; rintro e w1 ⟨rfl, hb1⟩; refine Stop.of ?_)
    refine Stop.go ?_
    have hc1' := HS.out w1 hb1
    have HB1 := hid hb1
    clear hb1
    go_wp2_with (go_at_call 182; refine (HNM.out w1 HB1.out).mono ?_; rintro e w2 ⟨rfl, hb2⟩)
    go_ret
    exact ⟨rfl, chain HB1.out hb2⟩

theorem pix_ok {M : Mask} {l : List Int} (h : pixE M l = 0) : okM M = true ∧ SetOk (colsM M) l := by
  unfold pixE at h
  split at h
  · rename_i h1; exact ⟨h1, named_ok h⟩
  · omega
theorem set_le {W : Nat} {l : List Int} (h : SetOk W l) : l.length ≤ W := by
  have h1 : (l.map Int.toNat).Pairwise (· < ·) := by
    rw [List.pairwise_map]
    refine h.1.imp_of_mem fun {a b} ha hb hab => ?_
    have := h.2 a ha
    have := h.2 b hb
    omega
  have := asc_le (a := 0) (b := W) h1 (fun x hx => by
    obtain ⟨y, hy, rfl⟩ := List.mem_map.1 hx
    have := h.2 y hy
    omega)
  rw [List.length_map] at this
  omega

end

section
open Go.RowKit
set_option linter.unusedVariables false

end
end Go.Proofs.YtddcamcdjkiadaaGreatDoor

namespace Go.Proofs.YtddcamcdjkiadaaGreatDoor
section
open Go.RowKit
set_option linter.unusedVariables false

def readV (M : Mask) (x : List Int) : List Int := M.map (fun r => dotV r x)
end

section
open Go.RowKit
set_option linter.unusedVariables false

end

section
open Go.RowKit
set_option linter.unusedVariables false

end

section
open Go.RowKit
set_option linter.unusedVariables false

end

section
open Go.RowKit
set_option linter.unusedVariables false

end
end Go.Proofs.YtddcamcdjkiadaaGreatDoor

namespace Go.Proofs.YtddcamcdjkiadaaGreatDoor
section
open Go.RowKit
set_option linter.unusedVariables false

abbrev Rt := Int × Int
def ratV (r : Rt) : Value := .agg #[.int .i64 r.1, .int .i64 r.2]
def ratCells (r : Rt) : List Value := [.int .i64 r.1, .int .i64 r.2]
def ratVals (l : List Rt) : List Value := l.flatMap ratCells
theorem ratVals_snoc (l : List Rt) (f : Rt) : ratVals (l ++ [f]) = ratVals l ++ ratCells f := by simp [ratVals]
theorem ratVals_at (l : List Rt) : ∀ (j i : Nat) (hj : j < l.length), i < 2 → (ratVals l)[j * 2 + i]? = (ratCells l[j])[i]? := by
  induction l with
  | nil => intro j i hj; simp at hj
  | cons f l ih =>
    intro j i hj hi
    show (ratCells f ++ ratVals l)[j * 2 + i]? = _
    cases j with
    | zero => rw [List.getElem?_append_left (by simp [ratCells]; omega)]; simp
    | succ j =>
      rw [List.getElem?_append_right (by simp [ratCells]; omega)]
      have := ih j i (by simpa using hj) hi
      rw [show (j + 1) * 2 + i - (ratCells f).length = j * 2 + i by simp [ratCells]; omega, this]
      simp

def RatsAt (w : World) (a : Option Addr) (l : List Rt) : Prop :=
  ∀ j (hj : j < l.length), ∃ b off, a = some ⟨b, off, none⟩ ∧ b < w.heap.size ∧ w.cell? ⟨b, off + j * 2, none⟩ = some (.int .i64 l[j].1) ∧ w.cell? ⟨b, off + j * 2 + 1, none⟩ = some (.int .i64 l[j].2)
theorem RatsAt.below {w w' : World} {a : Option Addr} {l : List Rt} (h : RatsAt w a l) (hb : Below w.heap.size w w') : RatsAt w' a l := by
  intro j hj
  obtain ⟨b, off, e, hlt, h0, h1⟩ := h j hj
  exact ⟨b, off, e, Nat.lt_of_lt_of_le hlt hb.size, (hb.cell (p := ⟨b, _, none⟩) hlt).trans h0, (hb.cell (p := ⟨b, _, none⟩) hlt).trans h1⟩

def RatsO (W : World) (base : Nat) (v : Value) (l : List Rt) : Prop := W.ownsRow base 192 2 v l.length (ratVals l)
theorem RatsO.nil (W : World) (base : Nat) : RatsO W base (.slice none 0 0) [] := World.ownsRow_nil _ _ _ _
theorem RatsO.below {W W' : World} {base : Nat} {v : Value} {l : List Rt} (h : RatsO W base v l) (hb : Below W.heap.size W W') : RatsO W' base v l := own_below h hb
theorem RatsO.reads {W : World} {base : Nat} {v : Value} {l : List Rt} (h : RatsO W base v l) : ∃ a cap, v = .slice a l.length cap ∧ l.length ≤ maxLen ∧ RatsAt W a l := by
  rcases h.2 with ⟨rfl, h0⟩ | ⟨g, cap, cur, rfl, hbg, hgg, hnc, hcm, hsz, htk⟩
  · exact ⟨none, 0, by rw [h0], by rw [h0]; decide, fun j hj => by omega⟩
  · refine ⟨_, cap, rfl, by omega, fun j hj => ⟨g, 0, rfl, (Array.getElem?_eq_some_iff.1 hgg).1, ?_⟩⟩
    have hc : ∀ i, i < l.length * 2 → W.cell? ⟨g, i, none⟩ = (ratVals l)[i]? := fun i hi =>
      World.ownsRow.cellAt (w := W) (base := base) (e := 192) (size := 2) (g := g) (n := l.length) (cap := cap) (xs := ratVals l) ⟨h.1, .inr ⟨g, cap, cur, rfl, hbg, hgg, hnc, hcm, hsz, htk⟩⟩ i hi
    refine ⟨?_, ?_⟩
    · rw [Nat.zero_add, hc _ (by omega)]; exact ratVals_at l j 0 hj (by omega)
    · rw [Nat.zero_add, hc _ (by omega)]; exact ratVals_at l j 1 hj (by omega)
theorem info_ratio : (Tryz.prog.info? 192).map (fun i => (i.zero, i.size, i.bytes)) = some (some (.agg #[.int .i64 0, .int .i64 0]), 2, 16) := by kernel_rfl
theorem rat_one (f : Rt) : ∀ u ∈ ratCells f, u.oneCell' = true := by
  intro u hu
  simp only [ratCells, List.mem_cons, List.not_mem_nil, or_false] at hu
  rcases hu with rfl | rfl <;> rfl
theorem rat_news (w : World) (f : Rt) (T : TypeId) : ∀ ad, (some ⟨w.heap.size, 0, none⟩ : Option Addr) = some ad → ∀ j u, (ratCells f)[j]? = some u → (w.alloc (.cells (ratCells f).toArray T)).cell? (ad.add j) = some u := by
  intro ad e j u hu
  cases e
  rw [Addr.add_lit, World.cell?_alloc_at _ _ _ _ rfl]
  simpa using hu

theorem tdiv_bndR {x g : Int} (hx : -4611686018427387904 ≤ x ∧ x ≤ 4611686018427387904) : -4611686018427387904 ≤ x.tdiv g ∧ x.tdiv g ≤ 4611686018427387904 := by
  have h := Int.natAbs_tdiv x g
  have h2 : (x.tdiv g).natAbs ≤ x.natAbs := by rw [Int.natAbs_tdiv]; exact Nat.div_le_self _ _
  omega

set_option maxRecDepth 100000 in
set_option maxHeartbeats 1000000 in
theorem of_c (w : World) (n d : Int) (hn : -4611686018427387904 ≤ n ∧ n ≤ 4611686018427387904) (hd : -4611686018427387904 ≤ d ∧ d ≤ 4611686018427387904) (h0 : d ≠ 0) :
    Calls Tryz.prog 186 #[.int .i64 n, .int .i64 d] w fun e w' => e = .returned (ratV (ofF n d)) ∧ Below w.heap.size w w' := by
  have HD := hid (fun (X : World) => divisor_c X n d hn hd)
  have hg0 : 0 < Int.gcd n d := Nat.pos_of_ne_zero (fun h => h0 (Int.gcd_eq_zero_iff.1 h).2)
  have hgl : Int.gcd n d ≤ 4611686018427387904 := by
    have := Int.gcd_le_natAbs_right n h0
    omega
  obtain ⟨G, hG⟩ : ∃ G : Int, G = ((Int.gcd n d : Nat) : Int) := ⟨_, rfl⟩
  unfold ofF
  simp only []
  rw [← hG] at HD ⊢
  have hG1 : 1 ≤ G := by omega
  have hG2 : G ≤ 4611686018427387904 := by omega
  clear hG hg0 hgl
  have b1 := tdiv_bndR (g := G) hn
  have b2 := tdiv_bndR (g := G) hd
  by_cases hs : d < 0
  · rw [if_pos hs]
    obtain ⟨m, hm⟩ : ∃ m : Int, m = -G := ⟨_, rfl⟩
    rw [← hm]
    have b3 := tdiv_bndR (g := m) hn
    have b4 := tdiv_bndR (g := m) hd
    have hw1 : IntKind.i64.wrap (n.tdiv m) = n.tdiv m := IntWalk.i64_in _ (by omega)
    have hw2 : IntKind.i64.wrap (d.tdiv m) = d.tdiv m := IntWalk.i64_in _ (by omega)
    have hw00 : wrap64 (-G) = m := by unfold wrap64; omega
    have hne : ¬ (m = 0) := by omega
    clear b1 b2 b3 b4 h0 hm hG1 hG2 hn hd
    go_enter Tryz.func186, Tryz.ntmps186
    go_wp2_with (go_at_call 191; refine (HD.out _).mono ?_; rintro e w1 ⟨rfl, k1, rfl⟩; refine Stop.of ?_)
    refine Stop.go ?_
    have hb1 : Below w.heap.size w ((w.alloc (.cells #[.int .i64 0, .int .i64 0] 192)).drewN k1) := below_drewN ((Below.refl _ w).alloc (Nat.le_refl _) _) k1
    have hq1 : ((w.alloc (.cells #[.int .i64 0, .int .i64 0] 192)).drewN k1).heap[w.heap.size]? = some (.cells #[.int .i64 0, .int .i64 0] 192 (0, 0)) := World.alloc_heap_new w _
    generalize (w.alloc (.cells #[.int .i64 0, .int .i64 0] 192)).drewN k1 = w2 at hb1 hq1 ⊢
    go_wp2
    go_still_tail 7, (by kernel_rfl)
    change wpList _ _ _ _ _ w2.drew
    have hb2 := hb1.drew
    have hq2 : w2.drew.heap[w.heap.size]? = some (.cells #[.int .i64 0, .int .i64 0] 192 (0, 0)) := hq1
    generalize w2.drew = w3 at hb2 hq2 ⊢
    have c0 : w3.cell? ⟨w.heap.size, 0, none⟩ = some (.int .i64 0) := by simp [World.cell?, hq2]
    have c1 : w3.cell? ⟨w.heap.size, 1, none⟩ = some (.int .i64 0) := by simp [World.cell?, hq2]
    have f0 : w3.frozen? ⟨w.heap.size, 0, none⟩ = false := by simp [World.frozen?, hq2]
    have f1 : w3.frozen? ⟨w.heap.size, 1, none⟩ = false := by simp [World.frozen?, hq2]
    have hlt3 : w.heap.size < w3.heap.size := (Array.getElem?_eq_some_iff.1 hq2).1
    go_wp2
    simp [bodyPost, results, Tryz.results186, go_sem, c0, c1, f0, f1, hlt3]
    exact ⟨rfl, below_set (below_set hb2 (Nat.le_refl _) 0 _) (Nat.le_refl _) 1 _⟩
  · rw [if_neg hs]
    have hw1 : IntKind.i64.wrap (n.tdiv G) = n.tdiv G := IntWalk.i64_in _ (by omega)
    have hw2 : IntKind.i64.wrap (d.tdiv G) = d.tdiv G := IntWalk.i64_in _ (by omega)
    have hne : ¬ (G = 0) := by omega
    clear b1 b2 h0 hG1 hG2 hn hd
    go_enter Tryz.func186, Tryz.ntmps186
    go_wp2_with (go_at_call 191; refine (HD.out _).mono ?_; rintro e w1 ⟨rfl, k1, rfl⟩; refine Stop.of ?_)
    refine Stop.go ?_
    have hb1 : Below w.heap.size w ((w.alloc (.cells #[.int .i64 0, .int .i64 0] 192)).drewN k1) := below_drewN ((Below.refl _ w).alloc (Nat.le_refl _) _) k1
    have hq1 : ((w.alloc (.cells #[.int .i64 0, .int .i64 0] 192)).drewN k1).heap[w.heap.size]? = some (.cells #[.int .i64 0, .int .i64 0] 192 (0, 0)) := World.alloc_heap_new w _
    generalize (w.alloc (.cells #[.int .i64 0, .int .i64 0] 192)).drewN k1 = w2 at hb1 hq1 ⊢
    go_wp2
    go_still_tail 7, (by kernel_rfl)
    change wpList _ _ _ _ _ w2.drew
    have hb2 := hb1.drew
    have hq2 : w2.drew.heap[w.heap.size]? = some (.cells #[.int .i64 0, .int .i64 0] 192 (0, 0)) := hq1
    generalize w2.drew = w3 at hb2 hq2 ⊢
    have c0 : w3.cell? ⟨w.heap.size, 0, none⟩ = some (.int .i64 0) := by simp [World.cell?, hq2]
    have c1 : w3.cell? ⟨w.heap.size, 1, none⟩ = some (.int .i64 0) := by simp [World.cell?, hq2]
    have f0 : w3.frozen? ⟨w.heap.size, 0, none⟩ = false := by simp [World.frozen?, hq2]
    have f1 : w3.frozen? ⟨w.heap.size, 1, none⟩ = false := by simp [World.frozen?, hq2]
    have hlt3 : w.heap.size < w3.heap.size := (Array.getElem?_eq_some_iff.1 hq2).1
    go_wp2
    simp [bodyPost, results, Tryz.results186, go_sem, c0, c1, f0, f1, hlt3]
    exact ⟨rfl, below_set (below_set hb2 (Nat.le_refl _) 0 _) (Nat.le_refl _) 1 _⟩

end

section
open Go.RowKit
set_option linter.unusedVariables false

def checkE (M : Mask) (y l : List Int) : Int := if okM M = true then (if y.length = M.length then (if milB y = true then pixE M l else 7) else 9) else 1

set_option maxHeartbeats 1000000 in
theorem check_c (w : World) (a a2 a3 : Option Addr) (n cap n2 cap2 n3 cap3 : Nat) (M : Mask) (y l : List Int) (hn : M.length = n) (hn2 : y.length = n2) (hn3 : l.length = n3) (hm : n ≤ maxLen) (hm2 : n2 ≤ maxLen) (hm3 : n3 ≤ maxLen) (H : RowsAt w a M) (H2 : IntsAt w a2 y) (H3 : IntsAt w a3 l) :
    Calls Tryz.prog 169 #[.slice a n cap, .slice a2 n2 cap2, .slice a3 n3 cap3] w fun e w' => e = .returned (.int .i64 (checkE M y l)) ∧ Below w.heap.size w w' := by
  have HV := hid (maskValid_c w a n cap M hn hm H)
  cases hok : okM M
  · rw [hok] at HV
    have hp : checkE M y l = 1 := by unfold checkE; rw [hok]; rfl
    rw [hp]
    clear hn hn2 hn3 H H2 H3 hok hp
    go_enter Tryz.func169, Tryz.ntmps169
    go_wp2_with (go_at_call 39; refine HV.out.mono ?_; rintro e w1 ⟨rfl, hb1⟩)
    go_ret
    exact ⟨rfl, hb1⟩
  · rw [hok] at HV
    by_cases hl : n2 = n
    · subst hl
      have HII := hid (fun (X : World) (hX : Below w.heap.size w X) => H2.below hX)
      have HN2 := hid hn2
      have HPX := hid (fun (X : World) (hX : Below w.heap.size w X) => pixels_c X a a3 n2 cap n3 cap3 M l hn hn3 hm hm3 (H.below hX) (H3.below hX))
      have hdl : ((n2 : Int) != (n2 : Int)) = false := by simp
      have hpre : checkE M y l = if milB y = true then pixE M l else 7 := by unfold checkE; rw [if_pos hok, if_pos (by omega)]
      rw [hpre]
      obtain ⟨E, hE⟩ : ∃ E, E = pixE M l := ⟨_, rfl⟩
      rw [← hE] at HPX ⊢
      obtain ⟨mz, hmz⟩ : ∃ b, b = milB y := ⟨_, rfl⟩
      have HMZ := hid hmz
      rw [← hmz]
      clear hn H H2 H3 hok hn2 hn3 hpre hE hmz
      cases mz
      all_goals
        simp only [if_true, if_false, Bool.false_eq_true]
        go_enter Tryz.func169, Tryz.ntmps169
        go_wp2_with (go_at_call 39; refine HV.out.mono ?_; rintro e w1 ⟨rfl, hb1⟩; refine Stop.of ?_)
        refine Stop.go ?_
        have HBW1 := hid hb1
        clear hb1 HV
        go_wp2_with (go_at_call 174; refine (beyond_c _ 1000000).mono ?_; rintro e w2 ⟨q, rfl, hq, hqs, hb2⟩; refine Stop.of ?_)
        refine Stop.go ?_
        have HB2 := hid (chain HBW1.out hb2)
        have HCF := hid (containsI w2 a2 n2 cap2 y HN2.out hm2 (HII.out w2 HB2.out) 181 #[.pointer (some ⟨q, 0, none⟩)] (fun n => !(inB n (-1000000) 1000000)) (enters_of Tryz.func181 (by kernel_rfl) rfl) (beyond1 w2 q 1000000 (by decide) hq hqs))
        rw [any_mil, ← HMZ.out] at HCF
        clear hq hqs hb2
      · go_wp2_with (go_at_call 79; refine HCF.out.mono ?_; rintro e w3 ⟨rfl, hb3⟩)
        go_ret
        exact ⟨rfl, chain HB2.out hb3⟩
      · go_wp2_with (go_at_call 79; refine HCF.out.mono ?_; rintro e w3 ⟨rfl, hb3⟩; refine Stop.of ?_)
        refine Stop.go ?_
        have HB3 := hid (chain HB2.out hb3)
        clear HCF hb3
        go_wp2_with (go_at_call 175; refine (HPX.out w3 HB3.out).mono ?_; rintro e w4 ⟨rfl, hb4⟩)
        go_ret
        exact ⟨rfl, chain HB3.out hb4⟩
    · have hdl : ((n2 : Int) != (n : Int)) = true := by simp; omega
      have hpre : checkE M y l = 9 := by unfold checkE; rw [if_pos hok, if_neg (by omega)]
      rw [hpre]
      clear hn hn2 hn3 H H2 H3 hok hpre hl
      go_enter Tryz.func169, Tryz.ntmps169
      go_wp2_with (go_at_call 39; refine HV.out.mono ?_; rintro e w1 ⟨rfl, hb1⟩)
      go_ret
      exact ⟨rfl, hb1⟩

end

section
open Go.RowKit
set_option linter.unusedVariables false

theorem solve1 (w : World) (b : Nat) (a : Option Addr) (n cap N : Nat) (y : List Int) (hn : y.length = n) (hN : N ≤ n) (hm : n ≤ maxLen) (hc : w.cell? ⟨b, 0, none⟩ = some (.slice a n cap)) (hb : b < w.heap.size) (H : IntsAt w a y) :
    MoreP Tryz.prog 184 #[.pointer (some ⟨b, 0, none⟩)] w N (fun i => [y[i]?.getD 0]) := by
  intro i W hi hW
  have hc' : W.cell? ⟨b, 0, none⟩ = some (.slice a n cap) := (hW.cell (p := ⟨b, 0, none⟩) hb).trans hc
  obtain ⟨b2, o2, rfl, hb2, hc2⟩ := (H.below hW) i (by omega)
  show Calls Tryz.prog 184 #[.int .i64 i, .pointer (some ⟨b, 0, none⟩)] W fun e W' => ∃ a c, e = .returned (.slice a 1 c) ∧ IntsAt W' a [y[i]?.getD 0] ∧ Below W.heap.size W W'
  obtain ⟨x, hx⟩ : ∃ x, x = y[i]?.getD 0 := ⟨_, rfl⟩
  rw [← hx] at hc2 ⊢
  have hin : (i : Int) < (n : Int) := by omega
  unfold maxLen at hm
  clear hn H hc hx
  go_enter Tryz.func184, Tryz.ntmps184
  go_wp2
  go_ret
  refine ⟨some ⟨W.heap.size, 0, none⟩, 1, rfl, fun j hj => ⟨W.heap.size, 0, rfl, by simp, ?_⟩, (Below.refl _ _).alloc (Nat.le_refl _) _⟩
  obtain rfl : j = 0 := by simpa using hj
  rw [World.cell?_alloc_at _ _ _ _ rfl]; rfl

theorem chosenF_y {M : List (List Int)} {S y : List Int} (h : y.length = M.length) : chosenF M S (fun i => [y[i]?.getD 0]) = withY (colsF M S) y := by
  unfold chosenF withY colsF
  refine List.ext_getElem (by simp [h]) fun i h1 h2 => ?_
  have hi : i < M.length := by simpa using h1
  simp [List.getElem?_eq_getElem (show i < y.length by omega)]

def solveV (M : Mask) (l y : List Int) : List Rt × Int := if checkE M y l = 0 then solveP (withY (colsF M l) y) l.length else ([], checkE M y l)
theorem check_ok {M : Mask} {y l : List Int} (h : checkE M y l = 0) : okM M = true ∧ y.length = M.length ∧ milB y = true ∧ SetOk (colsM M) l := by
  unfold checkE at h
  by_cases h1 : okM M = true
  · rw [if_pos h1] at h
    by_cases h2 : y.length = M.length
    · rw [if_pos h2] at h
      by_cases h3 : milB y = true
      · rw [if_pos h3] at h
        exact ⟨h1, h2, h3, (pix_ok h).2⟩
      · rw [if_neg h3] at h; omega
    · rw [if_neg h2] at h; omega
  · rw [if_neg h1] at h; omega
theorem mil_bnd6 {y : List Int} (h : milB y = true) : ∀ v ∈ y, -((1000000 : Nat) : Int) ≤ v ∧ v ≤ ((1000000 : Nat) : Int) := by
  intro v hv
  have := List.all_eq_true.1 h v hv
  unfold inB at this
  simp only [Bool.and_eq_true, decide_eq_true_eq] at this
  omega
def ofTo (R : List (List Int)) (J : List Nat) (n k : Nat) : List Rt := (List.range k).map fun i => ofF (vec (R[i]?.getD []) n) (vec (R[i]?.getD []) (jf J i))
theorem ofTo_len (R : List (List Int)) (J : List Nat) (n k : Nat) : (ofTo R J n k).length = k := by simp [ofTo]
theorem ofTo_succ (R : List (List Int)) (J : List Nat) (n k : Nat) : ofTo R J n (k + 1) = ofTo R J n k ++ [ofF (vec (R[k]?.getD []) n) (vec (R[k]?.getD []) (jf J k))] := by
  unfold ofTo; rw [List.range_succ, List.map_append]; rfl

def SolveSt (wr : World) (base : Nat) (v : Value) (R : List (List Int)) (J : List Nat) (n k : Nat) : Prop := RatsO wr base v (ofTo R J n (min k J.length)) ∧ ∀ q, J.length ≤ q → q < k → vec (R[q]?.getD []) n = 0
theorem solve_end {C : List (List Int)} {n : Nat} (hK : (pRed C n).2.length ≤ n) (h0 : ∀ q, (pRed C n).2.length ≤ q → q < (pRed C n).1.length → vec ((pRed C n).1[q]?.getD []) n = 0) :
    solveP C n = if (pRed C n).2.length < n then ([], 11) else (ofTo (pRed C n).1 (pRed C n).2 n (pRed C n).2.length, 0) := by
  unfold solveP
  simp only []
  have h1 : ((pRed C n).1.drop (pRed C n).2.length).any (nz n) = false := by
    rw [Bool.eq_false_iff]
    intro hc
    obtain ⟨r, hr, hz⟩ := List.any_eq_true.1 hc
    obtain ⟨i, hi, rfl⟩ := List.mem_iff_getElem.1 hr
    rw [List.getElem_drop] at hz
    have := h0 ((pRed C n).2.length + i) (by omega) (by rw [List.length_drop] at hi; omega)
    rw [List.getElem?_eq_getElem (by rw [List.length_drop] at hi; omega)] at this
    simp only [nz, decide_eq_true_eq] at hz
    exact hz this
  rw [h1]
  simp only [Bool.false_eq_true, if_false]
  by_cases c : (pRed C n).2.length < n
  · rw [if_pos c, if_pos c]
  · rw [if_neg c, if_neg c]
    have : (pRed C n).2.length = n := by omega
    rw [this]; rfl
theorem solve_none {C : List (List Int)} {n q : Nat} (h1 : (pRed C n).2.length ≤ q) (h2 : q < (pRed C n).1.length) (h3 : vec ((pRed C n).1[q]?.getD []) n ≠ 0) : solveP C n = ([], 8) := by
  unfold solveP
  simp only []
  rw [if_pos]
  refine List.any_eq_true.2 ⟨(pRed C n).1[q], ?_, ?_⟩
  · rw [List.mem_drop_iff_getElem]; exact ⟨q - (pRed C n).2.length, by omega, by congr 1; omega⟩
  · rw [List.getElem?_eq_getElem h2] at h3
    simpa [nz] using h3

set_option maxRecDepth 100000 in
set_option maxHeartbeats 4000000 in
theorem solve_c (w : World) (a a2 a3 : Option Addr) (n cap n2 cap2 n3 cap3 : Nat) (M : Mask) (l y : List Int) (hn : M.length = n) (hn2 : l.length = n2) (hn3 : y.length = n3) (hm : n ≤ maxLen) (hm2 : n2 ≤ maxLen) (hm3 : n3 ≤ maxLen) (H : RowsAt w a M) (H2 : IntsAt w a2 l) (H3 : IntsAt w a3 y) :
    Calls Tryz.prog 178 #[.slice a n cap, .slice a2 n2 cap2, .slice a3 n3 cap3] w fun e w' => ∃ v base, e = .returned (.tuple #[v, .int .i64 (solveV M l y).2]) ∧ w.heap.size ≤ base ∧ RatsO w' base v (solveV M l y).1 ∧ Below w.heap.size w w' := by
  have hmf : ∀ (fn : Fn) (first cap : Array Value) (w : World), (Instr.makeFunc fn first cap).run Tryz.prog w = .ok (.func fn first cap) w := fun _ _ _ _ => rfl
  obtain ⟨s, hs⟩ : ∃ s, s = w.heap.size := ⟨_, rfl⟩
  obtain ⟨wf, hwf⟩ : ∃ wf, wf = w.alloc (.cells #[.slice a3 n3 cap3] 30) := ⟨_, rfl⟩
  have hb0 : Below w.heap.size w wf := by rw [hwf]; exact (Below.refl _ _).alloc (Nat.le_refl _) _
  have hcb : wf.cell? ⟨s, 0, none⟩ = some (.slice a3 n3 cap3) := by rw [hwf, hs, World.cell?_alloc_at _ _ _ _ rfl]; rfl
  have hsf : s < wf.heap.size := by rw [hwf, hs]; simp
  have HCK := hid (check_c wf a a3 a2 n cap n3 cap3 n2 cap2 M y l hn hn3 hn2 hm hm3 hm2 (H.below hb0) (H3.below hb0) (H2.below hb0))
  have HBF := hid hb0
  by_cases hck : checkE M y l = 0
  · rw [hck] at HCK
    have hv : solveV M l y = solveP (withY (colsF M l) y) n2 := by unfold solveV; rw [if_pos hck, hn2]
    rw [hv]
    obtain ⟨hok, hyl, hmil, hso⟩ := check_ok hck
    obtain ⟨hM, h1, h6, hc1, hc10⟩ := okM_ok hok
    have hl10 := set_le hso
    have hn6 : n ≤ 6 := by omega
    have hn1 : 1 ≤ n := by omega
    have hn210 : n2 ≤ 10 := by omega
    have hS : ∀ r ∈ M, ∀ j ∈ l, 0 ≤ j ∧ j < r.length := fun r hr j hj => by rw [hM.wid r hr]; exact hso.2 j hj
    have HCh := hid (fun (X : World) (hX : Below wf.heap.size wf X) =>
      have hX0 := chain hb0 hX
      chosen_c X a n cap M hn (by omega) (H.below hX0) a2 n2 cap2 l hn2 (by omega) (H2.below hX0) hS 184 #[.pointer (some ⟨s, 0, none⟩)] (enters_of Tryz.func184 (by kernel_rfl) rfl) (fun i => [y[i]?.getD 0])
        (solve1 X s a3 n3 cap3 n y hn3 (by omega) hm3 ((hX.cell (p := ⟨s, 0, none⟩) hsf).trans hcb) (Nat.lt_of_lt_of_le hsf hX.size) (H3.below hX0)) (fun i _ => ⟨by simp, by simp⟩))
    rw [chosenF_y (by omega)] at HCh
    have hMC : MaskOk (colsF M l) n2 := by rw [← hn2]; exact hM.cols l
    have hY := hMC.addY (y := y) (by rw [colsF_len]; omega) (Y := 1000000) (by omega) (mil_bnd6 hmil)
    have hCl : (withY (colsF M l) y).length = n := by rw [withY_len (by rw [colsF_len]; omega), colsF_len, hn]
    obtain ⟨C, hC⟩ : ∃ C, C = withY (colsF M l) y := ⟨_, rfl⟩
    rw [← hC] at HCh hY hCl ⊢
    have hle : ∀ t, t ≤ n2 → ∀ r ∈ (pRed C t).1, r.length = n2 + 1 ∧ BndL 1073741824 r := fun t ht r hr => by
      have h := pRed_le hY.wid hY.le6 hY.one hY.all ht r hr
      exact ⟨h.1, fun x hx => by have := h.2 x hx; omega⟩
    have HRd := hid (fun (W1 : World) (base : Nat) (v0 : Value) (hO : OwnT W1 base W1.heap.size v0 C) (hb : base ≤ W1.heap.size) => reduce_c W1 base v0 C (n2 + 1) hO hb hY.wid (by omega) (by omega) (by omega) n2 (by omega) hle)
    have hinv := pRed_inv C hY.wid n2 (fun j hj q => rowv_le (by decide) (fun r hr => hY.one r hr j hj) q)
    have hRl : (pRed C n2).1.length = n := by rw [pRed_len, hCl]
    have hRw : ∀ r ∈ (pRed C n2).1, r.length = n2 + 1 := fun r hr => (hle n2 (Nat.le_refl _) r hr).1
    have hRb : ∀ r ∈ (pRed C n2).1, BndL 1073741824 r := fun r hr => (hle n2 (Nat.le_refl _) r hr).2
    have hJn : (pRed C n2).2.length ≤ n := by have := hinv.K_le; omega
    have hJ2 : (pRed C n2).2.length ≤ n2 := by
      have := asc_le (a := 0) (b := n2) hinv.asc (fun x hx => ⟨Nat.zero_le _, hinv.lt x hx⟩)
      omega
    have hJlt : ∀ k, k < (pRed C n2).2.length → jf (pRed C n2).2 k < n2 := fun k hk => by
      unfold jf; rw [List.getElem?_eq_getElem hk]; exact hinv.lt _ (List.getElem_mem hk)
    have hJpos : ∀ k, k < (pRed C n2).2.length → 0 < vec ((pRed C n2).1[k]?.getD []) (jf (pRed C n2).2 k) := fun k hk => (hinv.pp k hk).2
    have HEND := hid (solve_end (C := C) (n := n2) hJ2)
    have HNO := hid (fun q => solve_none (C := C) (n := n2) (q := q))
    obtain ⟨SV, hSV⟩ : ∃ SV, SV = solveP C n2 := ⟨_, rfl⟩
    rw [← hSV] at HEND HNO ⊢
    obtain ⟨R, hR⟩ : ∃ R, R = (pRed C n2).1 := ⟨_, rfl⟩
    obtain ⟨J, hJ⟩ : ∃ R, R = (pRed C n2).2 := ⟨_, rfl⟩
    have e1 : (pRed C n2).1 = R := hR.symm
    have e2 : (pRed C n2).2 = J := hJ.symm
    rw [e1] at HRd hRl hRw hRb hJpos HEND HNO
    rw [e2] at HRd hJn hJ2 hJlt hJpos HEND HNO
    obtain ⟨K, hK⟩ : ∃ K, K = J.length := ⟨_, rfl⟩
    rw [← hK] at HRd hJn hJ2 hJlt hJpos HEND HNO
    have HKJ := hid hK
    have HRL := hid hRl
    have HRW := hid hRw
    have HRB := hid hRb
    have HJLT := hid hJlt
    have HJPOS := hid hJpos
    have HSS := hid hs
    clear e1 e2 hR hJ hK hRl hRw hRb hJlt hJpos hSV hinv hle hC hCl hY hMC hS hso hmil hyl hok hM h1 h6 hc1 hc10 hl10 hck hv hn hn2 hn3 H H2 H3 hb0
    go_enter Tryz.func178, Tryz.ntmps178
    go_wp2_with fail
    rw [← hwf, ← hs]
    clear hwf hs
    go_wp2_with (go_at_call 169; refine HCK.out.mono ?_; rintro e w1 ⟨rfl, hb1⟩; refine Stop.of ?_)
    refine Stop.go ?_
    go_wp2_with (go_at_call 183; refine (HCh.out w1 hb1).mono ?_; rintro e w2 ⟨v0, rfl, hO2, hb2⟩; refine Stop.of ?_)
    refine Stop.go ?_
    have HRd1 := hid (HRd.out w2 w1.heap.size v0 (OwnT.of hO2) hb2.size)
    clear hO2 HRd HCh
    go_wp2_with (go_at_call 185; refine HRd1.out.mono ?_; rintro e w3 ⟨vJ, rfl, hJo, hT3, hb3⟩; refine Stop.of ?_)
    refine Stop.go ?_
    rw [intsJ_vals] at hJo
    obtain ⟨ja, jc, rfl, hJI, hJm⟩ := ints_of_own hJo (by rw [intsJ_len, HKJ.out])
    have hv0 : ∃ g0 c0, v0 = .slice (some ⟨g0, 0, none⟩) n c0 := by
      obtain ⟨g0, c0, _, _, e, _⟩ := hT3.at 0 (by rw [HRL.out]; omega)
      exact ⟨g0, c0, by rw [e, HRL.out]⟩
    obtain ⟨g0, c0, rfl⟩ := hv0
    have hRA := hT3.rowsAt HRL.out (fun r hr => by rw [HRW.out r hr]; unfold maxLen; omega)
    have HJI := hid hJI
    have HRA := hid hRA
    have HBW := hid (show Below w.heap.size w w3 from chain HBF.out (hb1.trans ((hb2.trans hb3).mono hb1.size)))
    have hsz : s ≤ w3.heap.size := by rw [HSS.out]; exact HBW.out.size
    clear hJI hRA hJo hT3 hb1 hb2 hb3 HRd1 HCK HBF hcb hsf
    go_wp2
    go_loopw [12, 33] (fun v i wr => ∃ k : Nat, k ≤ n ∧ i = .int .i64 k ∧ SolveSt wr w3.heap.size v R J n2 k ∧ Below w3.heap.size w3 wr) (fun _ i _ => n - (intOf i).toNat)
    case atStart => exact ⟨0, Nat.zero_le _, rfl, ⟨by rw [Nat.zero_min]; exact RatsO.nil _ _, fun q _ h => by omega⟩, Below.refl _ _⟩
    case round =>
      obtain ⟨k, hk, rfl, hst, hbk⟩ := hrel
      by_cases hlt : k < n
      · obtain ⟨b, off, ra, rn, rc, e, hbs, hc, hrn, hrm, hri⟩ := HRA.out k (by rw [HRL.out]; exact hlt)
        cases e
        rw [Nat.zero_add] at hc
        have hrw : rn = n2 + 1 := by rw [← hrn]; exact HRW.out _ (List.getElem_mem _)
        have hcw : wr.cell? ⟨g0, k, none⟩ = some (.slice ra rn rc) := (hbk.cell (p := ⟨g0, k, none⟩) hbs).trans hc
        clear hc
        obtain ⟨b', off', rfl, hbs', hcx⟩ := hri n2 (by omega)
        have hkR : k < R.length := by rw [HRL.out]; exact hlt
        have hvx : ∀ c, (R[k])[c]?.getD 0 = vec (R[k]?.getD []) c := fun c => by rw [List.getElem?_eq_getElem hkR]; rfl
        rw [hvx] at hcx
        have hnx : (n2 : Int) < (rn : Int) := by omega
        by_cases hkK : k < K
        · obtain ⟨p, hp⟩ : ∃ p, p = jf J k := ⟨_, rfl⟩
          have hp2 : p < n2 := by rw [hp]; exact HJLT.out k hkK
          obtain ⟨jb, jo, rfl, hjs, hcj⟩ := HJI.out k (by rw [intsJ_len, ← HKJ.out]; exact hkK)
          have hjv : (intsJ J)[k]?.getD 0 = (p : Int) := by
            have hkl : k < J.length := by rw [← HKJ.out]; exact hkK
            unfold intsJ; rw [hp]; unfold jf; simp [hkl]
          rw [hjv] at hcj
          obtain ⟨b2, off2, e2, _, hcz⟩ := hri p (by omega)
          cases e2
          rw [hvx] at hcz
          have hzp : 0 < vec (R[k]?.getD []) p := by rw [hp]; exact HJPOS.out k hkK
          have hbx := vec_mem (P := fun x => -((1073741824 : Nat) : Int) ≤ x ∧ x ≤ ((1073741824 : Nat) : Int)) (by omega) (HRB.out _ (List.getElem_mem hkR))
          have hbx1 := hbx n2
          have hbx2 := hbx p
          have hRk : R[k]?.getD [] = R[k] := by rw [List.getElem?_eq_getElem hkR]; rfl
          rw [← hRk] at hbx1 hbx2
          have hsnoc : ofTo R J n2 (k + 1) = ofTo R J n2 k ++ [ofF (vec (R[k]?.getD []) n2) (vec (R[k]?.getD []) p)] := by rw [hp]; exact ofTo_succ R J n2 k
          have HOf := hid (fun (X : World) => of_c X (vec (R[k]?.getD []) n2) (vec (R[k]?.getD []) p) (by omega) (by omega) (by omega))
          obtain ⟨x, hx⟩ : ∃ x, x = vec (R[k]?.getD []) n2 := ⟨_, rfl⟩
          obtain ⟨z, hz⟩ : ∃ x, x = vec (R[k]?.getD []) p := ⟨_, rfl⟩
          rw [← hx] at hcx HOf hsnoc
          rw [← hz] at hcz HOf hsnoc
          obtain ⟨Q, hQ⟩ : ∃ Q, Q = ofF x z := ⟨_, rfl⟩
          rw [← hQ] at HOf hsnoc
          obtain ⟨q1, q2⟩ := Q
          have HSN := hid hsnoc
          obtain ⟨hst1, hst2⟩ := hst
          rw [← HKJ.out, show min k K = k by omega] at hst1
          have HST2 := hid (show ∀ q, J.length ≤ q → q < k + 1 → vec (R[q]?.getD []) n2 = 0 from fun q h1 h2 => by have := HKJ.out; omega)
          obtain ⟨T, hT⟩ : ∃ T, T = ofTo R J n2 k := ⟨_, rfl⟩
          rw [← hT] at hst1 hsnoc
          have hTl : T.length = k := by rw [hT]; exact ofTo_len R J n2 k
          have HO := hid hst1
          unfold RatsO at hst1
          rw [hTl] at hst1
          have HO1 := hid hst1
          obtain ⟨va, vc, rfl⟩ := ownsRow_slice hst1
          have HSN2 := hid (show ratVals (ofTo R J n2 (k + 1)) = ratVals T ++ ratCells (q1, q2) by rw [hsnoc, ratVals_snoc])
          have HS := hid (fun (X : World) (hX : Below w3.heap.size w3 X) => show X.cell? ⟨b', off' + n2, none⟩ = some (.int .i64 x) ∧ X.cell? ⟨jb, jo + k, none⟩ = some (.int .i64 p) ∧ X.cell? ⟨b', off' + p, none⟩ = some (.int .i64 z) from
            ⟨(hX.cell (p := ⟨b', off' + n2, none⟩) hbs').trans hcx, (hX.cell (p := ⟨jb, jo + k, none⟩) hjs).trans hcj, (hX.cell (p := ⟨b', off' + p, none⟩) hbs').trans hcz⟩)
          have M1 := hid (show k + 1 ≤ maxLen by unfold maxLen; omega)
          have M2 := hid (show (k + 1) * 16 ≤ 140737488355328 by omega)
          have HBK := hid hbk
          have i1 : (k : Int) < (K : Int) := by omega
          have i2 : (p : Int) < (rn : Int) := by omega
          clear hst1 hst2 hcx hcj hcz hsnoc hx hz hQ hT hTl hRk hbx hbx1 hbx2 hzp hvx hri hrn hrw hjv hp hbk HO HSN
          simp only [ratV] at HOf
          go_wp2
          refine plain_region (fun j' X => wAll j' = true → X.cell? ⟨b', off' + n2, none⟩ = some (.int .i64 x) ∧ X.cell? ⟨jb, jo + k, none⟩ = some (.int .i64 p) ∧ X.cell? ⟨b', off' + p, none⟩ = some (.int .i64 z)) (by kernel_rfl) ?_
          have hbd : Below w3.heap.size w3 wr.drew := HBK.out.drew
          have HO2 := hid (own_below HO1.out ((Below.refl _ wr).drew))
          have HB3 := hid hbd
          generalize wr.drew = wd at hbd HO2 HB3 ⊢
          refine AnyT.takeD (i := 0) (v := .slice va k vc) rfl rfl (by kernel_rfl) (by kernel_rfl) (by kernel_rfl) (by first | exact (fun _ _ _ h => h) | exact (fun _ _ _ h => absurd h.1 (by simp))) (by kernel_rfl) (by rfl) (by rintro w' ⟨y1, y2, y3⟩; go_simp) (HS.out _ hbd) ?_; go_frame
          refine AnyT.takeD (i := 1) (v := .slice (some ⟨b', off', none⟩) rn rc) rfl rfl (by kernel_rfl) (by kernel_rfl) (by kernel_rfl) (by first | exact (fun _ _ _ h => h) | exact (fun _ _ _ h => absurd h.1 (by simp))) (by kernel_rfl) (by rfl) (by rintro w' ⟨y1, y2, y3⟩; go_simp) (HS.out _ hbd) ?_; go_frame
          refine AnyT.takeD (i := 2) (v := .int .i64 n2) rfl rfl (by kernel_rfl) (by kernel_rfl) (by kernel_rfl) (by first | exact (fun _ _ _ h => h) | exact (fun _ _ _ h => absurd h.1 (by simp))) (by kernel_rfl) (by rfl) (by rintro w' ⟨y1, y2, y3⟩; go_simp) (HS.out _ hbd) ?_; go_frame
          refine AnyT.takeD (i := 3) (v := .pointer (some ⟨b', off' + n2, none⟩)) rfl rfl (by kernel_rfl) (by kernel_rfl) (by kernel_rfl) (by first | exact (fun _ _ _ h => h) | exact (fun _ _ _ h => absurd h.1 (by simp))) (by kernel_rfl) (by rfl) (by rintro w' ⟨y1, y2, y3⟩; go_simp) (HS.out _ hbd) ?_; go_frame
          refine AnyT.takeD (i := 4) (v := .int .i64 x) rfl rfl (by kernel_rfl) (by kernel_rfl) (by kernel_rfl) (by first | exact (fun _ _ _ h => h) | exact (fun _ _ _ h => absurd h.1 (by simp))) (by kernel_rfl) (by rfl) (by rintro w' ⟨y1, y2, y3⟩; go_simp) (HS.out _ hbd) ?_; go_frame
          refine AnyT.takeD (i := 5) (v := .slice (some ⟨b', off', none⟩) rn rc) rfl rfl (by kernel_rfl) (by kernel_rfl) (by kernel_rfl) (by first | exact (fun _ _ _ h => h) | exact (fun _ _ _ h => absurd h.1 (by simp))) (by kernel_rfl) (by rfl) (by rintro w' ⟨y1, y2, y3⟩; go_simp) (HS.out _ hbd) ?_; go_frame
          refine AnyT.takeD (i := 6) (v := .slice (some ⟨jb, jo, none⟩) K jc) rfl rfl (by kernel_rfl) (by kernel_rfl) (by kernel_rfl) (by first | exact (fun _ _ _ h => h) | exact (fun _ _ _ h => absurd h.1 (by simp))) (by kernel_rfl) (by rfl) (by rintro w' ⟨y1, y2, y3⟩; go_simp) (HS.out _ hbd) ?_; go_frame
          refine AnyT.takeD (i := 7) (v := .int .i64 k) rfl rfl (by kernel_rfl) (by kernel_rfl) (by kernel_rfl) (by first | exact (fun _ _ _ h => h) | exact (fun _ _ _ h => absurd h.1 (by simp))) (by kernel_rfl) (by rfl) (by rintro w' ⟨y1, y2, y3⟩; go_simp) (HS.out _ hbd) ?_; go_frame
          refine AnyT.takeD (i := 8) (v := .pointer (some ⟨jb, jo + k, none⟩)) rfl rfl (by kernel_rfl) (by kernel_rfl) (by kernel_rfl) (by first | exact (fun _ _ _ h => h) | exact (fun _ _ _ h => absurd h.1 (by simp))) (by kernel_rfl) (by rfl) (by rintro w' ⟨y1, y2, y3⟩; go_simp) (HS.out _ hbd) ?_; go_frame
          refine AnyT.takeD (i := 9) (v := .int .i64 p) rfl rfl (by kernel_rfl) (by kernel_rfl) (by kernel_rfl) (by first | exact (fun _ _ _ h => h) | exact (fun _ _ _ h => absurd h.1 (by simp))) (by kernel_rfl) (by rfl) (by rintro w' ⟨y1, y2, y3⟩; go_simp) (HS.out _ hbd) ?_; go_frame
          refine AnyT.takeD (i := 10) (v := .pointer (some ⟨b', off' + p, none⟩)) rfl rfl (by kernel_rfl) (by kernel_rfl) (by kernel_rfl) (by first | exact (fun _ _ _ h => h) | exact (fun _ _ _ h => absurd h.1 (by simp))) (by kernel_rfl) (by rfl) (by rintro w' ⟨y1, y2, y3⟩; go_simp) (HS.out _ hbd) ?_; go_frame
          refine AnyT.takeD (i := 11) (v := .int .i64 z) rfl rfl (by kernel_rfl) (by kernel_rfl) (by kernel_rfl) (by first | exact (fun _ _ _ h => h) | exact (fun _ _ _ h => absurd h.1 (by simp))) (by kernel_rfl) (by rfl) (by rintro w' ⟨y1, y2, y3⟩; go_simp) (HS.out _ hbd) ?_; go_frame
          refine AnyT.next (i := 12) (by kernel_rfl) rfl (wpOp_of_list rfl ?_)
          go_wp2_with (go_at_call 186; refine (HOf.out _).mono ?_; rintro e w4 ⟨rfl, hbl4⟩; refine Stop.of ?_)
          refine Stop.go ?_
          have HB4 := hid (chain hbd hbl4)
          have HO4 := hid (own_below HO2.out hbl4)
          have M3 := hid (Nat.le_trans HB4.out.size (le_alloc w4 (.cells (ratCells (q1, q2)).toArray 192)))
          clear hbd hbl4
          go_wp2
          refine ⟨fun _ => HS.out _ HB4.out, ?_⟩
          refine AnyT.next (i := 13) (by kernel_rfl) rfl (wpOp_of_list rfl ?_)
          go_wp2
          have hbA : Below w3.heap.size w3 (w4.alloc (.cells (ratCells (q1, q2)).toArray 192)) := HB4.out.alloc HB4.out.size _
          refine ⟨fun _ => HS.out _ hbA, ?_⟩
          refine AnyT.next (i := 14) (by kernel_rfl) rfl (wpOp_of_list rfl ?_)
          refine wpList_app _ rfl (.tmp 43) (.tmp 56) 199 rfl w3.heap.size 192 (.agg #[.int .i64 0, .int .i64 0]) 2 16 Tryz.underlying199 info_ratio rfl (by decide) (.slice va k vc) k _ rfl (HO4.out.alloc _) (some ⟨w4.heap.size, 0, none⟩) 1 1 (ratCells (q1, q2)) rfl rfl no_none (rat_news w4 (q1, q2) _) (rat_one _) M1.out M2.out M3.out ?_
          intro a5 c5 w5 own5 g5
          have hb5 : Below w3.heap.size w3 w5 := hbA.grown g5 M3.out (fun q hq => (HO4.out.lt q hq).1)
          refine ⟨fun _ => HS.out _ hb5, ?_⟩
          refine AnyT.takeD (i := 15) (v := .slice a5 (k + 1) c5) rfl rfl (by kernel_rfl) (by kernel_rfl) (by kernel_rfl) (by first | exact (fun _ _ _ h => h) | exact (fun _ _ _ h => absurd h.1 (by simp))) (by kernel_rfl) (by rfl) (by rintro w' ⟨y1, y2, y3⟩; go_simp) (HS.out _ hb5) ?_; go_frame
          refine AnyT.done (by kernel_rfl) ?_ _
          go_wp2
          refine ⟨⟨k + 1, by omega, by go_num, ⟨?_, HST2.out⟩, hb5⟩, by simp [intOf]; omega⟩
          rw [← HKJ.out, show min (k + 1) K = k + 1 by omega]
          unfold RatsO
          rw [ofTo_len, HSN2.out]
          exact own5
        · have HX8 := hid (fun (h : vec (R[k]?.getD []) n2 ≠ 0) => HNO.out k (by omega) (by rw [HRL.out]; exact hlt) h)
          have HX0 := hid (fun (h : vec (R[k]?.getD []) n2 = 0) => show SolveSt wr w3.heap.size u12 R J n2 (k + 1) from ⟨by have h1 := hst.1; rw [← HKJ.out, show min k K = min (k + 1) K by omega] at h1; rw [← HKJ.out]; exact h1, fun q h1 h2 => by
            rcases Nat.lt_or_ge q k with h3 | h3
            · exact hst.2 q h1 h3
            · obtain rfl : q = k := by omega
              exact h⟩)
          obtain ⟨x, hx⟩ : ∃ x, x = vec (R[k]?.getD []) n2 := ⟨_, rfl⟩
          rw [← hx] at hcx HX8 HX0
          have i1 : ¬ ((k : Int) < (K : Int)) := by omega
          have HBK := hid hbk
          have hcx' : wr.cell? ⟨b', off' + n2, none⟩ = some (.int .i64 x) := (hbk.cell (p := ⟨b', off' + n2, none⟩) hbs').trans hcx
          clear hx hst hbk hcx hvx hri hrn hrw
          by_cases h0 : x = 0
          · subst h0
            have HX := hid (HX0.out rfl)
            clear HX0 HX8
            go_wp2
            exact ⟨⟨k + 1, by omega, by go_num, HX.out, HBK.out⟩, by simp [intOf]; omega⟩
          · have hxb : (x != 0) = true := by simpa using h0
            obtain rfl : SV = ([], 8) := HX8.out h0
            clear HX0 HX8
            go_wp2
            go_ret2
            exact ⟨.slice none 0 0, rfl, w.heap.size, Nat.le_refl _, RatsO.nil _ _, chain HBW.out HBK.out⟩
      · obtain rfl : k = n := by omega
        have hSV : SV = if K < n2 then ([], 11) else (ofTo R J n2 K, 0) := HEND.out fun q h1 h2 => hst.2 q (by rw [← HKJ.out]; exact h1) (by rw [HRL.out] at h2; exact h2)
        have hst1 := hst.1
        rw [← HKJ.out, show min k K = K by omega] at hst1
        have HO := hid hst1
        have HBK := hid hbk
        obtain ⟨va, vc, hve⟩ := ownsRow_slice hst1
        rw [ofTo_len] at hve
        subst hve
        clear hst1 hst hbk
        by_cases hKn : K < n2
        · rw [if_pos hKn] at hSV
          subst hSV
          have i2 : (K : Int) < (n2 : Int) := by omega
          go_wp2
          go_ret2
          exact ⟨.slice none 0 0, rfl, w.heap.size, Nat.le_refl _, RatsO.nil _ _, chain HBW.out HBK.out⟩
        · rw [if_neg hKn] at hSV
          subst hSV
          have i2 : ¬ ((K : Int) < (n2 : Int)) := by omega
          go_wp2
          go_ret2
          exact ⟨_, rfl, w3.heap.size, HBW.out.size, HO.out, chain HBW.out HBK.out⟩
  · have hv : solveV M l y = ([], checkE M y l) := by unfold solveV; rw [if_neg hck]
    rw [hv]
    obtain ⟨E, hE⟩ : ∃ E, E = checkE M y l := ⟨_, rfl⟩
    rw [← hE] at HCK hck ⊢
    have hpb : (E != 0) = true := by simpa using hck
    have HSS := hid hs
    clear hn hn2 hn3 H H2 H3 hv hE hb0
    go_enter Tryz.func178, Tryz.ntmps178
    go_wp2_with fail
    rw [← hwf, ← hs]
    clear hwf hs
    go_wp2_with (go_at_call 169; refine HCK.out.mono ?_; rintro e w1 ⟨rfl, hb1⟩)
    go_ret2
    exact ⟨.slice none 0 0, w.heap.size, rfl, Nat.le_refl _, RatsO.nil _ _, chain HBF.out hb1⟩
end
end Go.Proofs.YtddcamcdjkiadaaGreatDoor

namespace Go.Proofs.YtddcamcdjkiadaaGreatDoor
set_option linter.unusedVariables false

abbrev FitT := List Int × List Rt
def fitF (M : Mask) (y S : List Int) : Option FitT := if (solveV M S y).2 = 0 ∧ (solveV M S y).1.all (fun r => decide (r.1 ≠ 0)) = true then some (S, (solveV M S y).1) else none
def fitsTo (M : Mask) (y : List Int) (W t : Nat) : List FitT := (List.range t).flatMap fun j => (comb W j 0).filterMap (fitF M y)
theorem fitsTo_succ (M : Mask) (y : List Int) (W t : Nat) : fitsTo M y W (t + 1) = fitsTo M y W t ++ (comb W t 0).filterMap (fitF M y) := by
  unfold fitsTo; rw [List.range_succ, List.flatMap_append]; simp
def fitsF (M : Mask) (y : List Int) (k : Nat) : List FitT := fitsTo M y (colsM M) (min (min k (colsM M)) M.length + 1)

theorem fit_some {M : Mask} {y S : List Int} {f : FitT} (h : fitF M y S = some f) : f = (S, (solveV M S y).1) ∧ (solveV M S y).2 = 0 ∧ ∀ r ∈ f.2, r.1 ≠ 0 := by
  unfold fitF at h
  split at h
  · rename_i h1
    cases h
    exact ⟨rfl, h1.1, fun r hr => by simpa using List.all_eq_true.1 h1.2 r hr⟩
  · cases h

def wholeR (r : Rt) : Bool := decide (r.2 = 1) && inB r.1 (-1000000) 1000000
def spreadTo1 (W : Nat) (f : FitT) (k : Nat) : List Int := (List.range k).foldl (fun out i => out.set (f.1[i]?.getD 0).toNat (f.2[i]?.getD (0, 0)).1) (List.replicate W 0)
def spreadI (W : Nat) (f : FitT) : List Int := spreadTo1 W f f.1.length
theorem spreadTo1_succ (W : Nat) (f : FitT) (k : Nat) : spreadTo1 W f (k + 1) = (spreadTo1 W f k).set (f.1[k]?.getD 0).toNat (f.2[k]?.getD (0, 0)).1 := by
  unfold spreadTo1; rw [List.range_succ, List.foldl_append]; rfl
theorem spreadTo1_len (W : Nat) (f : FitT) : ∀ k, (spreadTo1 W f k).length = W
  | 0 => by simp [spreadTo1]
  | k + 1 => by rw [spreadTo1_succ, List.length_set, spreadTo1_len W f k]
def wholeOne (W : Nat) (f : FitT) : Option (List Int) := if f.2.all wholeR = true then some (spreadI W f) else none
def wholeF (M : Mask) (y : List Int) (k : Nat) : List (List Int) := (fitsF M y k).filterMap (wholeOne (colsM M))
end Go.Proofs.YtddcamcdjkiadaaGreatDoor

namespace Go.Proofs.YtddcamcdjkiadaaGreatDoor
section
set_option linter.unusedVariables false

end

section
section
open Go.RowKit
set_option linter.unusedVariables false

def SeenAt (w : World) (g0 : Nat) (M : Mask) (W : Nat) : Prop :=
  ∀ i, i < M.length → ∃ gi x, w.cell? ⟨g0, i, none⟩ = some (.slice (some ⟨gi, 0, none⟩) (W + M.length) (W + M.length + x)) ∧ g0 < w.heap.size ∧ gi < w.heap.size ∧ IntsAt w (some ⟨gi, 0, none⟩) ((RE M W)[i]?.getD []) ∧ ((RE M W)[i]?.getD []).length = W + M.length
theorem SeenAt.below {w w' : World} {g0 : Nat} {M : Mask} {W : Nat} (h : SeenAt w g0 M W) (hb : Below w.heap.size w w') : SeenAt w' g0 M W := by
  intro i hi
  obtain ⟨gi, x, h1, h2, h3, h4, h5⟩ := h i hi
  exact ⟨gi, x, (hb.cell (p := ⟨g0, i, none⟩) h2).trans h1, Nat.lt_of_lt_of_le h2 hb.size, Nat.lt_of_lt_of_le h3 hb.size, h4.below hb, h5⟩

end

section
open Go.RowKit
set_option linter.unusedVariables false

end

section
open Go.RowKit
set_option linter.unusedVariables false

end

section
open Go.RowKit
set_option linter.unusedVariables false

theorem clone_c (w : World) (a : Option Addr) (n cap : Nat) (l : List Int) (hn : l.length = n) (hm : n * 8 ≤ 140737488355328) (H : IntsAt w a l) :
    Calls Tryz.prog 103 #[.slice a n cap] w fun e w' => ∃ v, e = .returned v ∧ w'.ownsRow w.heap.size 3 1 v n (l.map (Value.int .i64)) ∧ Below w.heap.size w w' := by
  obtain ⟨i0, hi, hz0, hz1, hz2⟩ := info_parts li_int
  have heq := fun (w : World) (a : Option Addr) (n c : Nat) => Lib.run_eql_slice_nil (P := Tryz.prog) w 30 3 a n c 0 0 Tryz.underlying30
  cases a with
  | none =>
    have h0 : n = 0 := by
      rcases Nat.eq_zero_or_pos n with h | h
      · exact h
      · obtain ⟨_, _, e, _⟩ := H 0 (by omega); cases e
    subst h0
    have hl : l = [] := List.eq_nil_of_length_eq_zero hn
    subst hl
    clear hn H hm
    go_enter Tryz.func103, Tryz.ntmps103
    go_wp2
    go_ret
    exact ⟨_, rfl, World.ownsRow_nil _ _ _ _, Below.refl _ _⟩
  | some ad =>
    have HN := hid hn
    have hnews : ∀ j u, (l.map (Value.int .i64))[j]? = some u → (w.alloc (.cells #[] 3)).cell? (ad.add j) = some u := by
      intro j u hu
      rw [List.getElem?_map] at hu
      obtain ⟨x, hx, rfl⟩ := Option.map_eq_some_iff.1 hu
      obtain ⟨hjl, e⟩ := List.getElem?_eq_some_iff.1 hx
      obtain ⟨b, off, ea, hb, hc⟩ := H j hjl
      cases ea
      rw [Addr.add_lit]
      refine (((Below.refl _ w).alloc (Nat.le_refl _) (.cells #[] 3)).cell (p := ⟨b, off + j, none⟩) hb).trans ?_
      rw [hc, hx]; rfl
    have HNews := hid hnews
    clear hnews H hn
    go_enter Tryz.func103, Tryz.ntmps103
    go_wp2_with (at_builtin; refine wpList_append_own _ rfl _ _ 30 rfl w.heap.size 3 i0 (.int .i64 0) 1 8 Tryz.underlying30 hi hz0 hz1 hz2 rfl (by decide) _ 0 [] rfl (World.ownsRow_made _ _ 0 (Nat.le_refl _) (by unfold maxLen; omega) rfl) ad n cap (l.map (Value.int .i64)) rfl (by rw [List.length_map, HN.out]; omega) HNews.out (ints_one _) (by unfold maxLen; omega) (by omega) (by simp) ?_; intro v' w1 hown' hgrow _)
    go_ret
    refine ⟨_, rfl, by simpa using hown', ((Below.refl _ w).alloc (Nat.le_refl _) _).grown hgrow (by simp) (fun k hk => by cases hk; exact Nat.le_refl _)⟩

end

section
open Go.RowKit
set_option linter.unusedVariables false

end

section
open Go.RowKit
set_option linter.unusedVariables false

end
end
end Go.Proofs.YtddcamcdjkiadaaGreatDoor

namespace Go.Proofs.YtddcamcdjkiadaaGreatDoor
open Go.RowKit
set_option linter.unusedVariables false

def PredQ (P : Program) (g : Nat) (lb : Array Value) (w : World) (p : Rt → Bool) : Prop :=
  ∀ (r : Rt) (W : World), Below w.heap.size w W → Calls P g (#[ratV r] ++ lb) W fun e W' => e = .returned (.bool (p r)) ∧ Below W.heap.size W W'

theorem indexQ (w : World) (a : Option Addr) (n cap : Nat) (l : List Rt) (hn : l.length = n) (hm : n ≤ maxLen) (H : RatsAt w a l) (g : Nat) (lb : Array Value) (p : Rt → Bool) (hp : PredQ Tryz.prog g lb w p) (eg : ∀ args w, (callFunc g args).run Tryz.prog w = .ok (.enter g args) w) :
    Calls Tryz.prog 187 #[.slice a n cap, .func (.func g) #[] lb] w fun e w' => e = .returned (.int .i64 (idxP p l 0)) ∧ Below w.heap.size w w' := by
  have HN := hid hn
  have HH := hid H
  have HP := hid hp
  clear hn H hp
  unfold maxLen at hm
  go_enter Tryz.func187, Tryz.ntmps187
  go_wp2
  go_loopw [8] (fun i wr => ∃ k : Nat, k ≤ n ∧ i = .int .i64 k ∧ Below w.heap.size w wr ∧ ∀ i y, i < k → l[i]? = some y → p y = false) (fun i _ => n - (intOf i).toNat)
  case atStart => exact ⟨0, Nat.zero_le _, rfl, Below.refl _ _, fun i y h => by omega⟩
  case round =>
    obtain ⟨k, hk, rfl, hb, hno⟩ := hrel
    have HNO := hid hno
    clear hno
    by_cases hlt : k < n
    · have hkl : k < l.length := by rw [HN.out]; exact hlt
      obtain ⟨b, off, rfl, hbs, h0, h1⟩ := (HH.out.below hb) k hkl
      have HK := hid (List.getElem?_eq_getElem hkl)
      obtain ⟨⟨r1, r2⟩, hr⟩ : ∃ r, r = l[k]'hkl := ⟨_, rfl⟩
      rw [← hr] at h0 h1 HK
      simp only [] at h0 h1
      have HC := hid (HP.out (r1, r2) wr hb)
      obtain ⟨B, hB⟩ : ∃ B, B = p (r1, r2) := ⟨_, rfl⟩
      rw [← hB] at HC
      have HBB := hid hB.symm
      clear hr hB hkl
      go_wp2_with (refine HC.out.mono ?_; rintro e w1 ⟨rfl, hb1⟩; refine Stop.of ?_)
      refine Stop.go ?_
      cases B
      · go_wp2
        refine ⟨⟨k + 1, by omega, by go_num, chain hb hb1, ?_⟩, by simp [intOf]; omega⟩
        intro i y hi hy
        by_cases e : i = k
        · subst e; rw [HK.out] at hy; cases hy; exact HBB.out
        · exact HNO.out i y (by omega) hy
      · go_wp2
        go_ret
        refine ⟨ret_int ?_, chain hb hb1⟩
        rw [idxP_at p l 0 k _ HK.out HBB.out HNO.out]; simp
    · go_wp2
      go_ret
      refine ⟨ret_int ?_, hb⟩
      rw [idxP_neg]
      intro x hx
      obtain ⟨i, hi, e⟩ := List.getElem_of_mem hx
      exact HNO.out i x (by have := HN.out; omega) (by rw [List.getElem?_eq_getElem hi, e])

theorem containsQ (w : World) (a : Option Addr) (n cap : Nat) (l : List Rt) (hn : l.length = n) (hm : n ≤ maxLen) (H : RatsAt w a l) (g : Nat) (lb : Array Value) (p : Rt → Bool) (hp : PredQ Tryz.prog g lb w p) (eg : ∀ args w, (callFunc g args).run Tryz.prog w = .ok (.enter g args) w) :
    Calls Tryz.prog 179 #[.slice a n cap, .func (.func g) #[] lb] w fun e w' => e = .returned (.bool (l.any p)) ∧ Below w.heap.size w w' := by
  have HC := hid (indexQ w a n cap l hn hm H g lb p hp eg)
  have HG' := hid (idxP_ge p l 0)
  clear hn H hp
  go_enter Tryz.func179, Tryz.ntmps179
  go_wp2_with (refine HC.out.mono ?_; rintro e w1 ⟨rfl, hb1⟩)
  go_ret
  refine ⟨ret_bool ?_, hb1⟩
  rw [Bool.eq_iff_iff, decide_eq_true_iff, HG'.out]

theorem fit1 (w : World) : PredQ Tryz.prog 180 #[] w (fun r => decide (r.1 = 0)) := by
  rintro ⟨r1, r2⟩ W hb
  have hbz : Below W.heap.size W (W.alloc (.cells #[.int .i64 r1, .int .i64 r2] 192)) := (Below.refl _ _).alloc (Nat.le_refl _) _
  simp only [ratV]
  go_enter Tryz.func180, Tryz.ntmps180
  go_wp2
  go_ret
  exact ⟨ret_bool (by rw [Bool.eq_iff_iff]; simp), hbz⟩

theorem qpixels_c (w : World) (a a2 : Option Addr) (n cap n2 cap2 : Nat) (M : Mask) (hn : M.length = n) (h1 : 1 ≤ n) (H : RowsAt w a M) :
    Calls Tryz.prog 171 #[.agg #[.slice a n cap, .slice a2 n2 cap2]] w fun e w' => e = .returned (.int .i64 (colsM M)) ∧ Below w.heap.size w w' := by
  obtain ⟨b, off, ra, rc, rfl, hb, hc⟩ := rows_head H (by omega)
  have hbz : Below w.heap.size w (w.alloc (.cells #[.slice (some ⟨b, off, none⟩) n cap, .slice a2 n2 cap2] 197)) := (Below.refl _ _).alloc (Nat.le_refl _) _
  have hcz := (hbz.cell (p := ⟨b, off, none⟩) hb).trans hc
  have i0 : (0 : Int) < (n : Int) := by omega
  obtain ⟨W, hW⟩ : ∃ W, W = colsM M := ⟨_, rfl⟩
  rw [← hW] at hcz ⊢
  have HB := hid hbz
  clear hbz hc hb hn H hW
  go_enter Tryz.func171, Tryz.ntmps171
  go_wp2
  go_ret
  exact ⟨rfl, HB.out⟩

def FitV (lo : Nat) (S : Nat → Prop) (f : FitT) (v : Value) (W : World) : Prop :=
  ∃ pa pn pc va vn vc, v = .agg #[.slice pa pn pc, .slice va vn vc] ∧ f.1.length = pn ∧ f.2.length = vn ∧ pn ≤ maxLen ∧ vn ≤ maxLen ∧ IntsAt W pa f.1 ∧ RatsAt W va f.2 ∧
    (∀ b o, pa = some ⟨b, o, none⟩ → lo ≤ b ∧ b < W.heap.size ∧ ¬ S b) ∧ (∀ b o, va = some ⟨b, o, none⟩ → lo ≤ b ∧ b < W.heap.size ∧ ¬ S b)

def FitPost (o : Option FitT) (lo : Nat) (e : Ending) (w' : World) : Prop :=
  (o = none ∧ e = .returned (.tuple #[.agg #[.slice none 0 0, .slice none 0 0], .bool false])) ∨ (∃ f v, o = some f ∧ e = .returned (.tuple #[v, .bool true]) ∧ FitV lo (fun _ => False) f v w')

theorem own_block {w : World} {base : Nat} {T : TypeId} {k n : Nat} {a : Option Addr} {c : Nat} {xs : List Value} (h : w.ownsRow base T k (.slice a n c) n xs) : ∀ b o, a = some ⟨b, o, none⟩ → base ≤ b ∧ b < w.heap.size := by
  rintro b o rfl
  rcases h.2 with ⟨h1, _⟩ | ⟨g, cap, cur, h1, hbg, hgg, _⟩
  · cases h1
  · cases h1; exact ⟨hbg, (Array.getElem?_eq_some_iff.1 hgg).1⟩

set_option maxRecDepth 100000 in
set_option maxHeartbeats 2000000 in
theorem fit_c (w : World) (a a2 a3 : Option Addr) (n cap n2 cap2 n3 cap3 : Nat) (M : Mask) (y S : List Int) (hn : M.length = n) (hn2 : y.length = n2) (hn3 : S.length = n3) (hm : n ≤ maxLen) (hm2 : n2 ≤ maxLen) (hm3 : n3 ≤ 1000) (H : RowsAt w a M) (H2 : IntsAt w a2 y) (H3 : IntsAt w a3 S) :
    Calls Tryz.prog 173 #[.agg #[.slice a n cap, .slice a2 n2 cap2], .slice a3 n3 cap3] w fun e w' => FitPost (fitF M y S) w.heap.size e w' ∧ Below w.heap.size w w' := by
  obtain ⟨wz, hwz⟩ : ∃ wz, wz = (w.alloc (.cells #[.slice a n cap, .slice a2 n2 cap2] 197)).alloc (.cells #[.slice none 0 0, .slice none 0 0] 201) := ⟨_, rfl⟩
  obtain ⟨s0, hs⟩ : ∃ s, s = w.heap.size := ⟨_, rfl⟩
  have hbz : Below w.heap.size w wz := by rw [hwz]; exact ((Below.refl _ _).alloc (Nat.le_refl _) _).alloc (by simp) _
  have l0 : wz.cell? ⟨s0, 0, none⟩ = some (.slice a n cap) := by rw [hwz, hs, World.cell?_alloc_past _ _ _ (by simp), World.cell?_alloc_at _ _ _ _ rfl]; rfl
  have l1 : wz.cell? ⟨s0, 1, none⟩ = some (.slice a2 n2 cap2) := by rw [hwz, hs, World.cell?_alloc_past _ _ _ (by simp), World.cell?_alloc_at _ _ _ _ rfl]; rfl
  have q0 : wz.heap[s0 + 1]? = some (.cells #[.slice none 0 0, .slice none 0 0] 201 (0, 0)) := by
    have := World.alloc_heap_new (w.alloc (.cells #[.slice a n cap, .slice a2 n2 cap2] 197)) (.cells #[.slice none 0 0, .slice none 0 0] 201)
    rw [hwz, hs]; simpa using this
  have hs1 : s0 + 1 < wz.heap.size := (Array.getElem?_eq_some_iff.1 q0).1
  have HSO := hid (solve_c wz a a3 a2 n cap n3 cap3 n2 cap2 M S y hn hn3 hn2 hm (Nat.le_trans hm3 (by decide)) hm2 (H.below hbz) (H3.below hbz) (H2.below hbz))
  have HCL := hid (fun (X : World) (hX : Below w.heap.size w X) => clone_c X a3 n3 cap3 S hn3 (by omega) (H3.below hX))
  have HFC := hid (fun (X : World) (va : Option Addr) (vc : Nat) (vl : List Rt) (hvm : vl.length ≤ maxLen) (hv : RatsAt X va vl) => containsQ X va vl.length vc vl rfl hvm hv _ #[] _ (fit1 X) (enters_of Tryz.func180 (by kernel_rfl) rfl))
  have HFF := hid (show fitF M y S = if (solveV M S y).2 = 0 ∧ (solveV M S y).1.all (fun r => decide (r.1 ≠ 0)) = true then some (S, (solveV M S y).1) else none from rfl)
  obtain ⟨F, hF⟩ : ∃ F, F = fitF M y S := ⟨_, rfl⟩
  obtain ⟨⟨V, E⟩, hVE⟩ : ∃ V, V = solveV M S y := ⟨_, rfl⟩
  rw [← hVE] at HSO HFF
  rw [← hF] at HFF ⊢
  simp only [] at HSO HFF
  have HB := hid hbz
  have HQ := hid (fun (X : World) (hX : Below wz.heap.size wz X) => (hX.block _ hs1).trans q0)
  have HS := hid hs
  have HN3 := hid hn3
  have hs1' := hid hs1
  clear hbz hn hn2 hn3 H H2 H3 hF hVE q0 hs1
  go_enter Tryz.func173, Tryz.ntmps173
  go_wp2_with fail
  rw [← hs, ← hwz]
  clear hs hwz
  go_wp2_with (go_at_call 178; refine HSO.out.mono ?_; rintro e w1 ⟨v, base, rfl, hbs, hO, hb1⟩; refine Stop.of ?_)
  refine Stop.go ?_
  obtain ⟨va, vc, rfl, hvm, hvr⟩ := hO.reads
  have HVB := hid (own_block hO)
  have HVR := hid hvr
  have HVM := hid hvm
  have HB1 := hid hb1
  have HBS := hid hbs
  clear hO hvr hvm hb1 hbs HSO l0 l1
  have hz : ∀ X : World, Below wz.heap.size wz X → X.cell? ⟨s0 + 1, 0, none⟩ = some (.slice none 0 0) ∧ X.cell? ⟨s0 + 1, 1, none⟩ = some (.slice none 0 0) ∧ X.frozen? ⟨s0 + 1, 0, none⟩ = false ∧ X.frozen? ⟨s0 + 1, 1, none⟩ = false ∧ s0 + 1 < X.heap.size := fun X hX => by
    have h := HQ.out X hX
    exact ⟨by simp [World.cell?, h], by simp [World.cell?, h], by simp [World.frozen?, h], by simp [World.frozen?, h], (Array.getElem?_eq_some_iff.1 h).1⟩
  have HZ := hid hz
  clear hz
  by_cases hE : E = 0
  rotate_left
  · obtain rfl : F = none := by rw [HFF.out, if_neg (fun h => hE h.1)]
    have hEb : (E != 0) = true := by simpa using hE
    obtain ⟨z0, z1, f0, f1, hlt⟩ := HZ.out _ HB1.out
    have HFI := hid (show Below w.heap.size w ((w1.setCell ⟨s0 + 1, 0, none⟩ (.slice none 0 0)).setCell ⟨s0 + 1, 1, none⟩ (.slice none 0 0)) from by
      have hg : w.heap.size ≤ s0 + 1 := by rw [HS.out]; omega
      exact below_set (below_set (chain HB.out HB1.out) hg _ _) hg _ _)
    go_wp2
    refine bodyPost_ret (v := .tuple #[.agg #[.slice none 0 0, .slice none 0 0], .bool false]) ?_ rfl ⟨.inl ⟨rfl, rfl⟩, HFI.out⟩
    simp [results, Tryz.results173, go_sem, z0, z1, f0, f1, hlt]
  · subst hE
    have HFC1 := hid (HFC.out w1 va vc V HVM.out HVR.out)
    have hany : V.any (fun r => decide (r.1 = 0)) = !V.all (fun r => decide (r.1 ≠ 0)) := by
      rw [List.not_all_eq_any_not]; congr 1; funext r; simp
    rw [hany] at HFC1
    obtain ⟨A, hA⟩ : ∃ A, A = V.all (fun r => decide (r.1 ≠ 0)) := ⟨_, rfl⟩
    rw [← hA] at HFC1 HFF
    clear hA hany HFC
    go_wp2_with (go_at_call 179; refine HFC1.out.mono ?_; rintro e w2 ⟨rfl, hb2⟩; refine Stop.of ?_)
    refine Stop.go ?_
    have HB2 := hid (chain HB1.out hb2)
    have HVR2 := hid (HVR.out.below hb2)
    have HVB2 := hid (fun b o h => show base ≤ b ∧ b < w2.heap.size from by have := HVB.out b o h; have := hb2.size; omega)
    clear hb2 HFC1
    cases A
    · obtain rfl : F = none := by rw [HFF.out]; rfl
      obtain ⟨z0, z1, f0, f1, hlt⟩ := HZ.out _ HB2.out
      have HFI := hid (show Below w.heap.size w ((w2.setCell ⟨s0 + 1, 0, none⟩ (.slice none 0 0)).setCell ⟨s0 + 1, 1, none⟩ (.slice none 0 0)) from by
        have hg : w.heap.size ≤ s0 + 1 := by rw [HS.out]; omega
        exact below_set (below_set (chain HB.out HB2.out) hg _ _) hg _ _)
      go_wp2
      refine bodyPost_ret (v := .tuple #[.agg #[.slice none 0 0, .slice none 0 0], .bool false]) ?_ rfl ⟨.inl ⟨rfl, rfl⟩, HFI.out⟩
      simp [results, Tryz.results173, go_sem, z0, z1, f0, f1, hlt]
    · obtain rfl : F = some (S, V) := by rw [HFF.out]; rfl
      go_wp2_with (go_at_call 103; refine (HCL.out _ (chain HB.out HB2.out)).mono ?_; rintro e w3 ⟨v3, rfl, ho3, hb3⟩; refine Stop.of ?_)
      refine Stop.go ?_
      obtain ⟨pa, pc, rfl, hpi, _⟩ := ints_of_own ho3 HN3.out
      have HB3 := hid (chain HB2.out hb3)
      obtain ⟨z0, z1, f0, f1, hlt⟩ := HZ.out _ HB3.out
      have hgS : w.heap.size ≤ s0 + 1 := by rw [HS.out]; omega
      have HFI := hid (show Below w.heap.size w ((w3.setCell ⟨s0 + 1, 0, none⟩ (.slice pa n3 pc)).setCell ⟨s0 + 1, 1, none⟩ (.slice va V.length vc)) from below_set (below_set (chain HB.out HB3.out) hgS _ _) hgS _ _)
      have hpb := own_block ho3
      have hbz2 : s0 + 1 < w2.heap.size := by have := HB2.out.size; have := hs1'.out; omega
      have hsz : w.heap.size ≤ w2.heap.size := Nat.le_trans HB.out.size HB2.out.size
      have hbs : wz.heap.size ≤ base := HBS.out
      have HFV := hid (show FitV w.heap.size (fun _ => False) (S, V) (.agg #[.slice pa n3 pc, .slice va V.length vc]) ((w3.setCell ⟨s0 + 1, 0, none⟩ (.slice pa n3 pc)).setCell ⟨s0 + 1, 1, none⟩ (.slice va V.length vc)) from by
        have hkeep : ∀ k, k ≠ s0 + 1 → ((w3.setCell ⟨s0 + 1, 0, none⟩ (.slice pa n3 pc)).setCell ⟨s0 + 1, 1, none⟩ (.slice va V.length vc)).heap[k]? = w3.heap[k]? := fun k hk => (Below.heap_setCell _ _ _ _ hk).trans (Below.heap_setCell _ _ _ _ hk)
        refine ⟨pa, n3, pc, va, V.length, vc, rfl, HN3.out, rfl, Nat.le_trans hm3 (by decide), HVM.out, ?_, ?_, ?_, ?_⟩
        · intro j hj
          obtain ⟨b, o, e, hb, hc⟩ := hpi j hj
          have := hpb b o e
          refine ⟨b, o, e, by simp [World.setCell]; omega, ?_⟩
          rw [World.cell?_of_block (hkeep b (by omega))]; exact hc
        · intro j hj
          obtain ⟨b, o, e, hb, h0, h1⟩ := (HVR2.out.below hb3) j hj
          have := HVB2.out b o e
          have hs2 := hs1'.out
          refine ⟨b, o, e, by simp [World.setCell]; omega, ?_, ?_⟩
          · rw [World.cell?_of_block (hkeep b (by omega))]; exact h0
          · rw [World.cell?_of_block (hkeep b (by omega))]; exact h1
        · intro b o e
          have := hpb b o e
          exact ⟨by omega, by simp [World.setCell]; omega, fun h => h⟩
        · intro b o e
          have := HVB2.out b o e
          have := hb3.size
          exact ⟨by have := HB.out.size; omega, by simp [World.setCell]; omega, fun h => h⟩)
      clear ho3 hpi hb3 hpb HVR HVR2 HCL
      go_wp2
      refine bodyPost_ret (v := .tuple #[.agg #[.slice pa n3 pc, .slice va V.length vc], .bool true]) ?_ rfl ⟨.inr ⟨_, _, rfl, rfl, HFV.out⟩, HFI.out⟩
      simp [results, Tryz.results173, go_sem, z0, z1, f0, f1, hlt]
end Go.Proofs.YtddcamcdjkiadaaGreatDoor

namespace Go.Proofs.YtddcamcdjkiadaaGreatDoor
open Go.RowKit
set_option linter.unusedVariables false

section
variable {P : Program} {ops : Array Oper} {Q : Exit → Act → World → Prop} {md : Region.Mode} {S : World → Prop}

theorem wpOp_inWide (n : Nat) {i : Nat} {K : Act → World → Prop} {a : Act} {w : World} (hq : ¬ LetsOut Q) (h : wpOp P ops Q i K a w) : wpOpIn Fence.wide n P ops Q i K a w := by
  unfold wpOp at h
  unfold wpOpIn
  cases ho : ops[i]? with
  | none => simpa [ho] using h
  | some o =>
    simp only [ho] at h ⊢
    split
    · rename_i hw
      simp only [hw, if_true] at h
      have h := h.resolve_right (fun x => hq x.2)
      refine ⟨fun f _ => trivial, ?_⟩
      rw [show Fence.wide.round = none from rfl, Oper.semAt_none]
      unfold Oper.wp at h
      generalize (execOp a.eval o).run P w = r at *
      cases r with
      | ok x w' =>
        cases x <;> simp only [Oper.upon, Oper.uponIn] at h ⊢ <;> first
          | exact h
          | exact ⟨fun h => by simp [Fence.wide] at h, callsIn_wide.2 h⟩
          | (refine ⟨fun h => by simp [Fence.wide] at h, fun c cs _ => ?_⟩
             obtain ⟨v, w'', hr, hs⟩ := h c cs
             exact ⟨v, w'', hr, (StepsIn.of_steps hs).mono fun m _ => fenced_wide P m⟩)
      | halt x w' => cases x <;> simp only [Oper.upon, Oper.uponIn] at h ⊢ <;> exact h
    · rename_i hw
      simp only [hw] at h
      exact ⟨fun f _ => trivial, h⟩
theorem AnyT.inWide {T : Nat → World → Prop} (n : Nat) (hq : ¬ LetsOut Q) : ∀ (fuel : Nat) (listed : Array Bool) (a : Act) (w : World),
    AnyT P md ops Q T fuel listed a w → wpAnyIn Fence.wide n P md ops Q fuel listed a w
  | 0, _, _, _, h => h
  | fuel + 1, _, _, _, h => ⟨h.1, fun i hi => wpOpIn_mono (fun a' w' h' => AnyT.inWide n hq fuel _ a' w' h'.2) (wpOp_inWide n hq (h.2 i hi))⟩
theorem wide_region (T : Nat → World → Prop) (n : Nat) {id : Nat} {a : Act} {w : World} (hm : P.follows .mixedOrders = true) (hq : ¬ LetsOut Q)
    (h : AnyT P .any ops Q T ops.size (Array.replicate ops.size false) a w.drew) : (Code.region id ops true).wpIn Fence.wide n P Q a w :=
  wpIn_region_any hm (AnyT.inWide n hq _ _ _ _ h)
end

def markL (hs : List Nat) : List Deferred := hs.map fun h => { target := .collected h, args := #[] }
theorem marks_leave {F : Fence} {n : Nat} {P : Program} {fn : Func} {tmps : Array Value} {R : Ending → World → Prop} : ∀ (hs : List Nat) (w : World), hs.Nodup → (∀ h ∈ hs, w.heap[h]? = some (.deferred (some []))) →
    (∀ w', Keep (fun k => k ∉ hs) w w' → LeavesIn F n P fn tmps R [] .returning w') → LeavesInM F n P fn tmps R (markL hs) .returning w
  | [], w, _, _, h => h w (Keep.refl _ _)
  | k :: hs, w, hd, hm, h => by
    obtain ⟨h1, h2⟩ := List.nodup_cons.1 hd
    refine ⟨by simp [markL], .inl ⟨k, _, by rfl, run_takeDeferred (hm k (by simp)), ?_⟩⟩
    refine marks_leave hs _ h2 (fun q hq => (World.putObj_heap_other (by rintro rfl; exact h1 hq)).trans (hm q (by simp [hq]))) fun w' hk => h w' ?_
    have hp := Keep.put w k (.deferred none)
    refine ⟨hk.os.trans hp.os, hk.tape.trans hp.tape, hk.output.trans hp.output, Nat.le_trans hp.size hk.size, fun i hi hs' => ?_⟩
    have hne : i ≠ k := fun e => hs' (by simp [e])
    exact (hk.block i (Nat.lt_of_lt_of_le hi hp.size) (fun h => hs' (by simp [h]))).trans (World.putObj_heap_other hne)

def SetV (lo : Nat) (S : Nat → Prop) (x : List Int) (v : Value) (W : World) : Prop := ∃ a c, v = .slice a x.length c ∧ IntsAt W a x ∧ ∀ b o, a = some ⟨b, o, none⟩ → lo ≤ b
theorem SetV.keep {lo : Nat} {S : Nat → Prop} {x : List Int} {v : Value} {A B : World} {T : Nat → Prop} (h : SetV lo S x v A) (hk : Keep T A B) (hT : ∀ k, lo ≤ k → T k) : SetV lo S x v B := by
  obtain ⟨a, c, e, hi, hb⟩ := h
  refine ⟨a, c, e, fun j hj => ?_, hb⟩
  obtain ⟨b, o, e2, hlt, hc⟩ := hi j hj
  exact ⟨b, o, e2, Nat.lt_of_lt_of_le hlt hk.size, hk.cell hc (hT b (hb b o e2))⟩

theorem iter_setsS (w0 : World) (n k kb nb : Nat) (hn : n ≤ 1000) (hk : k ≤ 1000) (hkb : kb < w0.heap.size) (hnb : nb < w0.heap.size) (hf0 : w0.cell? ⟨kb, 0, none⟩ = some (.int .i64 k)) (hf1 : w0.cell? ⟨nb, 0, none⟩ = some (.int .i64 n)) :
    IterS Tryz.prog 176 #[.pointer (some ⟨kb, 0, none⟩), .pointer (some ⟨nb, 0, none⟩)] SetV (comb n k 0) (fun q => q = kb ∨ q = nb) w0 := by
  rcases Nat.eq_zero_or_pos k with rfl | h1
  · intro l J Jx W hb hJx hJ hY h0
    have hxs : comb n 0 0 = [[]] := by unfold comb; rfl
    rw [hxs] at hY ⊢
    have hg0 : W.cell? ⟨kb, 0, none⟩ = some (.int .i64 0) := (hb.cell (p := ⟨kb, 0, none⟩) hkb).trans hf0
    have hg1 : W.cell? ⟨nb, 0, none⟩ = some (.int .i64 n) := (hb.cell (p := ⟨nb, 0, none⟩) hnb).trans hf1
    have hkW : kb < W.heap.size := Nat.lt_of_lt_of_le hkb hb.size
    have hnW : nb < W.heap.size := Nat.lt_of_lt_of_le hnb hb.size
    have HJ := hid hJ
    have HY := hid hY
    have H0 := hid h0
    have HALL := hid (all_c W 0 (by decide))
    clear hJ hJx hY h0 hf0 hf1 hb hxs
    refine callsIn_of_wp Tryz.func176 rfl trivial ?_ rfl
    simp only [Tryz.ntmps176, List.size_toArray, List.length_cons, List.length_nil, Nat.reduceAdd, Nat.reduceSub, Array.replicate_succ, Array.replicate_zero, List.push_toArray, List.append_toArray, List.nil_append, List.cons_append]
    gi_wp2_with (refine ⟨trivial, rfl, ?_⟩; gi_at_call 177; refine (callsIn_wide.2 HALL.out).mono ?_; rintro e w1 ⟨v, rfl, ho1, hb1⟩; refine Stop.of ?_)
    refine Stop.go ?_
    obtain ⟨va, vc, rfl⟩ := ownsRow_slice ho1
    have hVB := own_block ho1
    have hJ1 : J (fun _ => False) [] w1 := HJ.out _ _ _ _ _ H0.out (fun _ h => h) (fun _ h => h.elim) (Keep.of_below hb1)
    have hc0 : w1.cell? ⟨kb, 0, none⟩ = some (.int .i64 0) := (hb1.cell (p := ⟨kb, 0, none⟩) hkW).trans hg0
    have hc1 : w1.cell? ⟨nb, 0, none⟩ = some (.int .i64 n) := (hb1.cell (p := ⟨nb, 0, none⟩) hnW).trans hg1
    have hyk := HY.out (fun _ => False) [] [] (.slice va 0 vc) w1 (List.prefix_refl _) (fun _ h => h.elim) hb1.size hJ1 ⟨va, vc, rfl, fun j hj => by simp at hj, fun b o e => (hVB b o e).1⟩
    have hn0 : (0 : Int) ≤ (n : Int) := by omega
    have HB1 := hid hb1
    clear ho1 hVB hJ1 HALL hb1
    gi_wp2
    refine wpIn_loop_once ?_
    obtain ⟨fn, tmps, assign, body, hy, hR⟩ := hyk
    gi_wp2
    refine ⟨rfl, hR.mono ?_⟩
    clear hR hy
    rintro e W3 ⟨⟨hs3, hk3⟩, ⟨rfl, hJ3⟩ | ⟨rfl, hJx⟩⟩
    · have hg30 : W3.cell? ⟨kb, 0, none⟩ = some (.int .i64 0) := (World.cell?_of_block (a := ⟨kb, 0, none⟩) (hk3 kb (Or.inl (Or.inl rfl)))).trans hc0
      have HJ3 := hid hJ3
      clear hJ3 hk3 hc0 hc1
      gi_wp2
      refine wpIn_loop_once ?_
      gi_wp2
      gi_quiet (fail)
      gi_wp2
      refine bodyPost_ret (results_none rfl _ _ _) rfl ?_
      exact ⟨⟨_, rfl⟩, .inl ⟨fun _ => False, fun _ h => h.elim, HJ.out _ _ _ _ _ HJ3.out (fun _ h => h) (fun _ h => h.elim) ((Keep.refl _ _).drewN _)⟩⟩
    · gi_wp2
      refine bodyPost_ret (results_none rfl _ _ _) rfl ?_
      exact ⟨⟨_, rfl⟩, .inr ⟨fun _ => False, [[]], List.prefix_refl _, hJx⟩⟩
  · intro l J Jx W hb hJx hJ hY h0
    refine (iter_sets w0 n k kb nb hn hk h1 hkb hnb hf0 hf1 l (fun it pre X => (pre = [] ∧ Keep (fun q => q ≠ it) W X) ∨ (J (fun q => q = it) pre X ∧ it < X.heap.size)) (fun pre X => ∃ S, Jx S pre X) W hb ?_ ?_ ?_).mono ?_
    · rintro it s A B _ (⟨e, hj⟩ | ⟨hj, hl⟩) hab
      · exact .inl ⟨e, hj.trans hab⟩
      · exact .inr ⟨hJ _ _ _ _ _ hj (fun _ h => h) (fun _ h => .inl h) hab, Nat.lt_of_lt_of_le hl hab.size⟩
    · intro it pre x cap sp W1 hpre hit hit1 hj hrow
      have hj : J (fun q => q = it) pre W1 := by
        rcases hj with ⟨e, hj⟩ | ⟨hj, _⟩
        · rw [e]
          exact hJ _ _ _ _ _ h0 (fun _ h => h.elim) (fun q hq => .inr (by rw [hq]; exact hit)) hj
        · exact hj
      have hsz : W.heap.size ≤ W1.heap.size := by omega
      have := hY (fun q => q = it) pre x (.slice (some ⟨it, 0, none⟩) x.length cap) W1 hpre (fun q hq => by subst hq; exact ⟨hit, hit1⟩) hsz hj ⟨_, _, rfl, ints_row hrow, fun b o e => by simp only [Option.some.injEq, Addr.mk.injEq] at e; rw [← e.1]; exact hit⟩
      obtain ⟨fn, tmps, assign, body, hy, hR⟩ := this
      refine ⟨fn, tmps, assign, body, hy, hR.mono ?_⟩
      rintro e W3 ⟨⟨h2, h3⟩, ⟨he, h1⟩ | ⟨he, h⟩⟩
      · exact .inl ⟨he, .inr ⟨h1, Nat.lt_of_lt_of_le hit1 h2⟩, h2, h3⟩
      · exact .inr ⟨he, _, h⟩
    · intro it hit
      exact .inl ⟨rfl, Keep.refl _ _⟩
    · rintro e W' ⟨hv, ⟨it, hit, ⟨e, hj⟩ | ⟨hj, hl⟩⟩ | ⟨pre, hpre, S, hj⟩⟩
      · rw [e]
        refine ⟨hv, .inl ⟨fun q => q = it ∧ q < W'.heap.size, fun q hq => by rw [hq.1]; exact ⟨hit, by have := hq.2; rwa [hq.1] at this⟩, hJ _ _ _ _ _ h0 (fun _ h => h.elim) (fun q hq => .inr (by rw [hq.1]; exact hit)) ?_⟩⟩
        exact ⟨hj.os, hj.tape, hj.output, hj.size, fun i hi _ => hj.block i hi (fun e => by omega)⟩
      · exact ⟨hv, .inl ⟨_, fun q hq => by rw [hq]; exact ⟨hit, hl⟩, hj⟩⟩
      · exact ⟨hv, .inr ⟨_, _, hpre, hj⟩⟩
end Go.Proofs.YtddcamcdjkiadaaGreatDoor

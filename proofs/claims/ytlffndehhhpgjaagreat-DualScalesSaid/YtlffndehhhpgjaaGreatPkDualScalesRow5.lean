/- Walks and plain laws for DualScalesRow, part 5. -/
import Derived.Maps.AppendAt
import Derived.Deep.CutRange
import Derived.Lib.SliceRun
import Derived.Laws.MakeOwn
import Derived.WalkSpells
import Derived.Test.YtlffndehhhpgjaaGreatPkDualScalesRow4
namespace Go.Proofs.YtlffndehhhpgjaaGreat
section
open Go.RowKit
set_option linter.unusedVariables false
set_option linter.unusedSimpArgs false

def RowS (W : World) (v : Value) (l : List Int) : Prop :=
  (∃ g c, v = .slice (some ⟨g, 0, none⟩) l.length c ∧ SpRow W g l) ∨ (l = [] ∧ ∃ a c, v = .slice a 0 c)
theorem RowS.below {W W' : World} {v : Value} {l : List Int} (h : RowS W v l) (hb : Below W.heap.size W W') : RowS W' v l := by
  rcases h with ⟨g, c, rfl, hs⟩ | h
  · exact .inl ⟨g, c, rfl, hs.keep (hb.block g hs.lt)⟩
  · exact .inr h
def TabS (W : World) (base : Nat) (v : Value) (L : List (List Int)) : Prop :=
  ∃ vs, W.ownsRow base 24 1 v L.length vs ∧ ∀ j (hj : j < L.length), ∃ u, vs[j]? = some u ∧ RowS W u L[j]
theorem TabS.nil (W : World) (base : Nat) : TabS W base (.slice none 0 0) [] := ⟨[], World.ownsRow_nil _ _ _ _, fun j hj => by simp at hj⟩
theorem TabS.below {W W' : World} {base : Nat} {v : Value} {L : List (List Int)} (h : TabS W base v L) (hb : Below W.heap.size W W') : TabS W' base v L := by
  obtain ⟨vs, h1, h2⟩ := h
  refine ⟨vs, own_below h1 hb, fun j hj => ?_⟩
  obtain ⟨u, hu, hr⟩ := h2 j hj
  exact ⟨u, hu, hr.below hb⟩
theorem TabS.snoc {W w1 w3 : World} {base : Nat} {v v' u : Value} {L : List (List Int)} {r : List Int} {vs : List Value} (h1 : W.ownsRow base 24 1 v L.length vs)
    (h2 : ∀ j (hj : j < L.length), ∃ u, vs[j]? = some u ∧ RowS W u L[j]) (hb : Below W.heap.size W w1) (hr : RowS w1 u r) (hg : w1.grownBy w3 v.ownBlock)
    (ho' : w3.ownsRow base 24 1 v' (L.length + 1) (vs ++ [u])) : TabS w3 base v' (L ++ [r]) := by
  have hlen : vs.length = L.length := by have := h1.1; omega
  have hown : ∀ b, v.ownBlock = some b → ∃ c f, w1.heap[b]? = some (.cells c 24 f) := by
    intro b hb'
    rcases h1.2 with ⟨rfl, _⟩ | ⟨g, cap, cur, rfl, hbg, hgg, _⟩
    · simp [Value.ownBlock] at hb'
    · obtain rfl : g = b := by simpa [Value.ownBlock] using hb'
      exact ⟨cur, _, (hb.block g (Array.getElem?_eq_some_iff.1 hgg).1).trans hgg⟩
  have hold : ∀ b l, SpRow w1 b l → SpRow w3 b l := by
    intro b l hs
    refine hs.keep (hg.block b hs.lt ?_)
    intro e
    obtain ⟨c, f, hc⟩ := hown b e.symm
    obtain ⟨sp, hs⟩ := hs
    rw [hs] at hc
    simp at hc
  have hup : ∀ u l, RowS w1 u l → RowS w3 u l := by
    rintro u l (⟨g, c, rfl, hs⟩ | h)
    · exact .inl ⟨g, c, rfl, hold _ _ hs⟩
    · exact .inr h
  refine ⟨vs ++ [u], by simpa using ho', fun j hj => ?_⟩
  simp only [List.length_append, List.length_cons, List.length_nil, Nat.zero_add] at hj
  by_cases hjl : j < L.length
  · obtain ⟨u', hu', hr'⟩ := h2 j hjl
    rw [List.getElem_append_left hjl]
    exact ⟨u', by rw [List.getElem?_append_left (by omega)]; exact hu', hup _ _ (hr'.below hb)⟩
  · obtain rfl : j = L.length := by omega
    rw [List.getElem_append_right (Nat.le_refl _)]
    simp only [Nat.sub_self, List.getElem_cons_zero]
    exact ⟨u, by rw [List.getElem?_append_right (by omega), hlen]; simp, hup _ _ hr⟩
theorem TabS.at {W : World} {base n : Nat} {v : Value} {L : List (List Int)} (h : TabS W base v L) (hl : L.length = n) {i : Nat} (hi : i < n) :
    ∃ g0 cap u, v = .slice (some ⟨g0, 0, none⟩) n cap ∧ base ≤ g0 ∧ g0 < W.heap.size ∧ W.cell? ⟨g0, i, none⟩ = some u ∧ RowS W u (L[i]?.getD []) ∧ W.frozen? ⟨g0, i, none⟩ = false ∧
      ∀ u' r, RowS W u' r → TabS (W.setCell ⟨g0, i, none⟩ u') base v (L.set i r) ∧ ∀ k, k ≠ g0 → (W.setCell ⟨g0, i, none⟩ u').heap[k]? = W.heap[k]? := by
  subst hl
  obtain ⟨vs, h1, h2⟩ := h
  obtain ⟨u, hu, hr⟩ := h2 i hi
  rcases h1.2 with ⟨rfl, h0⟩ | ⟨g0, cap, cur, rfl, hbg, hgg, hnc, hcm, hsz, htk⟩
  · omega
  have hcell := World.ownsRow.cellAt (w := W) (base := base) (e := 24) (size := 1) (g := g0) (n := L.length) (cap := cap) (xs := vs) h1 i (by omega)
  have hvl : vs.length = L.length := by have := h1.1; omega
  refine ⟨g0, cap, u, rfl, hbg, (Array.getElem?_eq_some_iff.1 hgg).1, by rw [hcell]; exact hu, by rw [List.getElem?_eq_getElem hi]; exact hr, by simp [World.frozen?, hgg], ?_⟩
  intro u' r hr'
  have hkeep : ∀ k, k ≠ g0 → (W.setCell ⟨g0, i, none⟩ u').heap[k]? = W.heap[k]? := fun k hk => Below.heap_setCell _ _ _ _ hk
  have hup : ∀ u l, RowS W u l → RowS (W.setCell ⟨g0, i, none⟩ u') u l := by
    rintro u l (⟨g, c, rfl, hs⟩ | h)
    · refine .inl ⟨g, c, rfl, hs.keep (hkeep g ?_)⟩
      rintro rfl
      obtain ⟨sp, hs⟩ := hs
      rw [hgg] at hs
      cases hs
    · exact .inr h
  have hb2 : (W.setCell ⟨g0, i, none⟩ u').heap[g0]? = some (.cells (cur.setIfInBounds i u') 24 (0, 0)) := cells_set hgg i u'
  refine ⟨⟨vs.set i u', ⟨by simpa using h1.1, .inr ⟨g0, cap, cur.setIfInBounds i u', by simp, hbg, hb2, by simpa using hnc, hcm, by simpa using hsz, ?_⟩⟩, fun j hj => ?_⟩, hkeep⟩
  · rw [← htk]
    simp only [Array.toList_setIfInBounds, List.length_set, Nat.mul_one]
    rw [List.take_set]
  · have hj' : j < L.length := by simpa using hj
    by_cases e : i = j
    · subst e
      exact ⟨u', by simp [hvl, hj'], by simpa using hup _ _ hr'⟩
    · obtain ⟨u2, hu2, hr2⟩ := h2 j hj'
      exact ⟨u2, by rw [List.getElem?_set_ne e]; exact hu2, by rw [List.getElem_set_ne e]; exact hup _ _ hr2⟩
end

section
open Go.RowKit
set_option linter.unusedVariables false
set_option linter.unusedSimpArgs false

theorem RowS.slice {W : World} {v : Value} {l : List Int} (h : RowS W v l) : ∃ a c, v = .slice a l.length c := by
  rcases h with ⟨g, c, rfl, _⟩ | ⟨rfl, a, c, rfl⟩
  · exact ⟨_, _, rfl⟩
  · exact ⟨_, _, rfl⟩
end

section
open Go.RowKit
set_option linter.unusedVariables false
set_option linter.unusedSimpArgs false

def RowN (N : Option Nat) (W : World) (v : Value) (l : List Int) : Prop :=
  (∃ g c, v = .slice (some ⟨g, 0, none⟩) l.length c ∧ SpRow W g l ∧ N ≠ some g) ∨ (l = [] ∧ ∃ a c, v = .slice a 0 c)
theorem RowN.row {N : Option Nat} {W : World} {v : Value} {l : List Int} (h : RowN N W v l) : RowS W v l := by
  rcases h with ⟨g, c, e, hs, _⟩ | h
  · exact .inl ⟨g, c, e, hs⟩
  · exact .inr h
def KeepN (N : Option Nat) (W W' : World) : Prop := ∀ k c, W.heap[k]? = some (.cells c 3 (0, 0)) → N ≠ some k → W'.heap[k]? = W.heap[k]?
theorem RowN.keep {N : Option Nat} {W W' : World} {v : Value} {l : List Int} (h : RowN N W v l) (hk : KeepN N W W') : RowN N W' v l := by
  rcases h with ⟨g, c, e, hs, hne⟩ | h
  · refine .inl ⟨g, c, e, ?_, hne⟩
    obtain ⟨sp, hs'⟩ := id hs
    exact hs.keep (hk g _ hs' hne)
  · exact .inr h
theorem KeepN.below {N : Option Nat} {W W' : World} (hb : Below W.heap.size W W') : KeepN N W W' := fun k c h _ => hb.block k (Array.getElem?_eq_some_iff.1 h).1
def TabN (N : Option Nat) (W : World) (base : Nat) (v : Value) (L : List (List Int)) : Prop :=
  ∃ vs, W.ownsRow base 24 1 v L.length vs ∧ ∀ j (hj : j < L.length), ∃ u, vs[j]? = some u ∧ RowN N W u L[j]
theorem TabN.nil (N : Option Nat) (W : World) (base : Nat) : TabN N W base (.slice none 0 0) [] := ⟨[], World.ownsRow_nil _ _ _ _, fun j hj => by simp at hj⟩
theorem own_kept {W W' : World} {base size n : Nat} {T : TypeId} {v : Value} {xs : List Value} (h : W.ownsRow base T size v n xs) (hk : ∀ k, v.ownBlock = some k → k < W.heap.size → W'.heap[k]? = W.heap[k]?) : W'.ownsRow base T size v n xs := by
  refine ⟨h.1, ?_⟩
  rcases h.2 with hn | ⟨g, cap, cur, rfl, hbg, hgg, rest⟩
  · exact .inl hn
  · exact .inr ⟨g, cap, cur, rfl, hbg, (hk g rfl (Array.getElem?_eq_some_iff.1 hgg).1).trans hgg, rest⟩
theorem own_low {W : World} {base b0 size n : Nat} {T : TypeId} {v : Value} {xs : List Value} (h : W.ownsRow base T size v n xs) (hb : b0 ≤ base) : W.ownsRow b0 T size v n xs := by
  refine ⟨h.1, ?_⟩
  rcases h.2 with hn | ⟨g, cap, cur, rfl, hbg, rest⟩
  · exact .inl hn
  · exact .inr ⟨g, cap, cur, rfl, Nat.le_trans hb hbg, rest⟩
theorem own_type {W : World} {base size n k : Nat} {T : TypeId} {v : Value} {xs : List Value} (h : W.ownsRow base T size v n xs) (hk : v.ownBlock = some k) : base ≤ k ∧ ∃ c, W.heap[k]? = some (.cells c T (0, 0)) := by
  rcases h.2 with ⟨rfl, _⟩ | ⟨g, cap, cur, rfl, hbg, hgg, _⟩
  · simp [Value.ownBlock] at hk
  · obtain rfl : g = k := by simpa [Value.ownBlock] using hk
    exact ⟨hbg, cur, hgg⟩
theorem TabN.type {N : Option Nat} {W : World} {base k : Nat} {v : Value} {L : List (List Int)} (h : TabN N W base v L) (hk : v.ownBlock = some k) : base ≤ k ∧ k < W.heap.size ∧ ∃ c, W.heap[k]? = some (.cells c 24 (0, 0)) := by
  obtain ⟨vs, h1, _⟩ := h
  obtain ⟨h2, c, h3⟩ := own_type h1 hk
  exact ⟨h2, (Array.getElem?_eq_some_iff.1 h3).1, c, h3⟩
theorem TabN.low {N : Option Nat} {W : World} {base b0 : Nat} {v : Value} {L : List (List Int)} (h : TabN N W base v L) (hb : b0 ≤ base) : TabN N W b0 v L := by
  obtain ⟨vs, h1, h2⟩ := h
  exact ⟨vs, own_low h1 hb, h2⟩
theorem TabN.keep {N : Option Nat} {W W' : World} {base : Nat} {v : Value} {L : List (List Int)} (h : TabN N W base v L) (hk : KeepN N W W') (ho : ∀ k, v.ownBlock = some k → k < W.heap.size → W'.heap[k]? = W.heap[k]?) : TabN N W' base v L := by
  obtain ⟨vs, h1, h2⟩ := h
  refine ⟨vs, own_kept h1 ho, fun j hj => ?_⟩
  obtain ⟨u, hu, hr⟩ := h2 j hj
  exact ⟨u, hu, hr.keep hk⟩
theorem TabN.below {N : Option Nat} {W W' : World} {base : Nat} {v : Value} {L : List (List Int)} (h : TabN N W base v L) (hb : Below W.heap.size W W') : TabN N W' base v L :=
  h.keep (KeepN.below hb) fun k _ hk => hb.block k hk
theorem TabN.other {N N' : Option Nat} {W : World} {base : Nat} {v : Value} {L : List (List Int)} (h : TabN N W base v L) (hN : N' = N ∨ N' = some W.heap.size) : TabN N' W base v L := by
  obtain ⟨vs, h1, h2⟩ := h
  refine ⟨vs, h1, fun j hj => ?_⟩
  obtain ⟨u, hu, hr⟩ := h2 j hj
  refine ⟨u, hu, ?_⟩
  rcases hr with ⟨g, c, e, hs, hne⟩ | hr
  · refine .inl ⟨g, c, e, hs, ?_⟩
    rcases hN with rfl | rfl
    · exact hne
    · intro e
      have h1 : W.heap.size = g := by simpa using e
      have := hs.lt
      omega
  · exact .inr hr
theorem TabN.piv {W W' : World} {base b2 n : Nat} {v p p' : Value} {xs : List Value} {L : List (List Int)} (h : TabN p.ownBlock W base v L) (hg : W.grownBy W' p.ownBlock) (hat : p'.ownBlock = p.ownBlock ∨ p'.ownBlock = some W.heap.size)
    (hP : W.ownsRow b2 3 1 p n xs) : TabN p'.ownBlock W' base v L := by
  have h1 : TabN p.ownBlock W' base v L := by
    refine h.keep (fun k c hk hne => hg.block k (Array.getElem?_eq_some_iff.1 hk).1 (fun e => hne e.symm)) fun k hk hlt => hg.block k hlt fun e => ?_
    obtain ⟨_, _, c, hc⟩ := h.type hk
    obtain ⟨_, c2, hc2⟩ := own_type hP e.symm
    rw [hc] at hc2
    cases hc2
  have hlt : ∀ u l, RowN p.ownBlock W u l → RowN p'.ownBlock W' u l := by
    intro u l hr
    rcases hr with ⟨g, c, e, hs, hne⟩ | hr
    · refine .inl ⟨g, c, e, ?_, ?_⟩
      · obtain ⟨sp, hs'⟩ := id hs
        exact hs.keep (hg.block g hs.lt (fun e => hne e.symm))
      · rcases hat with hat | hat
        · rw [hat]; exact hne
        · rw [hat]; intro e
          have h1 : W.heap.size = g := by simpa using e
          have := hs.lt
          omega
    · exact .inr hr
  obtain ⟨vs, h2, h3⟩ := h
  obtain ⟨vs', h4, _⟩ := h1
  refine ⟨vs, own_kept h2 fun k hk hlt' => hg.block k hlt' fun e => ?_, fun j hj => ?_⟩
  · obtain ⟨_, c, hc⟩ := own_type h2 hk
    obtain ⟨_, c2, hc2⟩ := own_type hP e.symm
    rw [hc] at hc2
    cases hc2
  · obtain ⟨u, hu, hr⟩ := h3 j hj
    exact ⟨u, hu, hlt _ _ hr⟩
theorem TabN.snoc {N : Option Nat} {w1 w3 : World} {base : Nat} {v v' u : Value} {L : List (List Int)} {r : List Int} {vs : List Value} (h1 : w1.ownsRow base 24 1 v L.length vs)
    (h2 : ∀ j (hj : j < L.length), ∃ u, vs[j]? = some u ∧ RowN N w1 u L[j]) (hr : RowN N w1 u r) (hg : w1.grownBy w3 v.ownBlock)
    (ho' : w3.ownsRow base 24 1 v' (L.length + 1) (vs ++ [u])) : TabN N w3 base v' (L ++ [r]) := by
  have hlen : vs.length = L.length := by have := h1.1; omega
  have hK : KeepN N w1 w3 := fun k c hc hn => hg.block k (Array.getElem?_eq_some_iff.1 hc).1 fun e => by
    obtain ⟨_, c2, h2⟩ := own_type h1 e.symm
    rw [h2] at hc
    cases hc
  refine ⟨vs ++ [u], by simpa using ho', fun j hj => ?_⟩
  simp only [List.length_append, List.length_cons, List.length_nil, Nat.zero_add] at hj
  by_cases hjl : j < L.length
  · obtain ⟨u', hu', hr'⟩ := h2 j hjl
    rw [List.getElem_append_left hjl]
    exact ⟨u', by rw [List.getElem?_append_left (by omega)]; exact hu', hr'.keep hK⟩
  · obtain rfl : j = L.length := by omega
    rw [List.getElem_append_right (Nat.le_refl _)]
    simp only [Nat.sub_self, List.getElem_cons_zero]
    exact ⟨u, by rw [List.getElem?_append_right (by omega), hlen]; simp, hr.keep hK⟩
theorem TabN.at {N : Option Nat} {W : World} {base n : Nat} {v : Value} {L : List (List Int)} (h : TabN N W base v L) (hl : L.length = n) {i : Nat} (hi : i < n) :
    ∃ g0 cap u, v = .slice (some ⟨g0, 0, none⟩) n cap ∧ base ≤ g0 ∧ g0 < W.heap.size ∧ (∃ c, W.heap[g0]? = some (.cells c 24 (0, 0))) ∧ W.cell? ⟨g0, i, none⟩ = some u ∧ RowN N W u (L[i]?.getD []) ∧ W.frozen? ⟨g0, i, none⟩ = false ∧
      ∀ u' r, RowN N W u' r → TabN N (W.setCell ⟨g0, i, none⟩ u') base v (L.set i r) ∧ ∀ k, k ≠ g0 → (W.setCell ⟨g0, i, none⟩ u').heap[k]? = W.heap[k]? := by
  subst hl
  obtain ⟨vs, h1, h2⟩ := h
  obtain ⟨u, hu, hr⟩ := h2 i hi
  rcases h1.2 with ⟨rfl, h0⟩ | ⟨g0, cap, cur, rfl, hbg, hgg, hnc, hcm, hsz, htk⟩
  · omega
  have hcell := World.ownsRow.cellAt (w := W) (base := base) (e := 24) (size := 1) (g := g0) (n := L.length) (cap := cap) (xs := vs) h1 i (by omega)
  have hvl : vs.length = L.length := by have := h1.1; omega
  refine ⟨g0, cap, u, rfl, hbg, (Array.getElem?_eq_some_iff.1 hgg).1, ⟨cur, hgg⟩, by rw [hcell]; exact hu, by rw [List.getElem?_eq_getElem hi]; exact hr, by simp [World.frozen?, hgg], ?_⟩
  intro u' r hr'
  have hkeep : ∀ k, k ≠ g0 → (W.setCell ⟨g0, i, none⟩ u').heap[k]? = W.heap[k]? := fun k hk => Below.heap_setCell _ _ _ _ hk
  have hK : KeepN N W (W.setCell ⟨g0, i, none⟩ u') := fun k c hc hn => hkeep k fun e => by
    subst e
    rw [hgg] at hc
    cases hc
  have hb2 : (W.setCell ⟨g0, i, none⟩ u').heap[g0]? = some (.cells (cur.setIfInBounds i u') 24 (0, 0)) := cells_set hgg i u'
  refine ⟨⟨vs.set i u', ⟨by simpa using h1.1, .inr ⟨g0, cap, cur.setIfInBounds i u', by simp, hbg, hb2, by simpa using hnc, hcm, by simpa using hsz, ?_⟩⟩, fun j hj => ?_⟩, hkeep⟩
  · rw [← htk]
    simp only [Array.toList_setIfInBounds, List.length_set, Nat.mul_one]
    rw [List.take_set]
  · have hj' : j < L.length := by simpa using hj
    by_cases e : i = j
    · subst e
      exact ⟨u', by simp [hvl, hj'], by simpa using hr'.keep hK⟩
    · obtain ⟨u2, hu2, hr2⟩ := h2 j hj'
      exact ⟨u2, by rw [List.getElem?_set_ne e]; exact hu2, by rw [List.getElem_set_ne e]; exact hr2.keep hK⟩
end

section
open Go.RowKit
set_option linter.unusedVariables false
set_option linter.unusedSimpArgs false

def castL (l : List Nat) : List Int := l.map (fun j : Nat => (j : Int))
def RedI (w wr : World) (L : List (List Int)) (j : Nat) (l d p : Value) : Prop :=
  TabN p.ownBlock wr w.heap.size l (rRed L j).left ∧ TabN p.ownBlock wr w.heap.size d (rRed L j).done ∧ wr.ownsRow w.heap.size 3 1 p (rRed L j).piv.length ((castL (rRed L j).piv).map (Value.int .i64)) ∧ Below w.heap.size w wr
structure RedS (w : World) (R0 : Nat) (wr : World) (l d r q p : Value) (left done rest : List (List Int)) (P : List Int) (J : List Nat) : Prop where
  hl : TabN p.ownBlock wr w.heap.size l left
  hd : TabN p.ownBlock wr w.heap.size d done
  hr : TabN p.ownBlock wr R0 r rest
  hq : RowN p.ownBlock wr q P
  hp : wr.ownsRow w.heap.size 3 1 p J.length ((castL J).map (Value.int .i64))
  hb : Below w.heap.size w wr
  hR : R0 ≤ wr.heap.size
  hw : w.heap.size ≤ R0
  lR : ∀ k, l.ownBlock = some k → k < R0
  dR : ∀ k, d.ownBlock = some k → k < R0
  pR : ∀ k, p.ownBlock = some k → k < R0
theorem RedS.below {w : World} {R0 : Nat} {A B : World} {l d r q p : Value} {left done rest : List (List Int)} {P : List Int} {J : List Nat} (h : RedS w R0 A l d r q p left done rest P J) (hb : Below A.heap.size A B) : RedS w R0 B l d r q p left done rest P J :=
  ⟨h.hl.below hb, h.hd.below hb, h.hr.below hb, h.hq.keep (KeepN.below hb), own_below h.hp hb, chain h.hb hb, Nat.le_trans h.hR hb.size, h.hw, h.lR, h.dR, h.pR⟩
theorem TabN.lt {N : Option Nat} {W : World} {base : Nat} {v : Value} {L : List (List Int)} (h : TabN N W base v L) {k : Nat} (hk : v.ownBlock = some k) : k < W.heap.size := (h.type hk).2.1
theorem RedS.start {w wr : World} {L : List (List Int)} {j : Nat} {l d p q : Value} {P : List Int} (h : RedI w wr L j l d p) (hq : RowN p.ownBlock wr q P) : RedS w wr.heap.size wr l d (.slice none 0 0) q p (rRed L j).left (rRed L j).done [] P (rRed L j).piv :=
  ⟨h.1, h.2.1, TabN.nil _ _ _, hq, h.2.2.1, h.2.2.2, Nat.le_refl _, h.2.2.2.size, fun k hk => h.1.lt hk, fun k hk => h.2.1.lt hk, fun k hk => by
    obtain ⟨_, c, hc⟩ := own_type h.2.2.1 hk
    exact (Array.getElem?_eq_some_iff.1 hc).1⟩
end
end Go.Proofs.YtlffndehhhpgjaaGreat

namespace Go.Proofs.YtlffndehhhpgjaaGreat
open Go.RowKit
set_option linter.unusedVariables false
set_option linter.unusedSimpArgs false

theorem RowN.sp {N : Option Nat} {X : World} {g n c : Nat} {P : List Int} (h : RowN N X (.slice (some ⟨g, 0, none⟩) n c) P) (h0 : 0 < P.length) : SpRow X g P := by
  rcases h with ⟨g', c', e, hs, _⟩ | ⟨rfl, _⟩
  · cases e; exact hs
  · simp at h0
theorem RedS.drop {w : World} {R0 : Nat} {A : World} {l d r q p : Value} {left done rest : List (List Int)} {P : List Int} {J : List Nat} (h : RedS w R0 A l d r q p left done rest P J) : RedS w R0 A (.slice none 0 0) d r q p [] done rest P J :=
  ⟨TabN.nil _ _ _, h.hd, h.hr, h.hq, h.hp, h.hb, h.hR, h.hw, fun k hk => by simp [Value.ownBlock] at hk, h.dR, h.pR⟩

end Go.Proofs.YtlffndehhhpgjaaGreat

namespace Go.Proofs.YtlffndehhhpgjaaGreat
open Go.RowKit
set_option linter.unusedVariables false
set_option linter.unusedSimpArgs false

theorem pwithin_c (n lo hi : Int) (w : World) : Calls Tryz.prog 88 #[.int .i64 n, .int .i64 lo, .int .i64 hi] w fun e w' => e = .returned (.bool (inB n lo hi)) ∧ w = w' := by
  by_cases h1 : lo ≤ n <;> by_cases h2 : n ≤ hi
  all_goals
    go_enter Tryz.func88, Tryz.ntmps88
    go_wp2
    go_ret
    exact ⟨ret_bool (by simp [inB, h1, h2]), rfl⟩

theorem beyond1 (w : World) (b : Nat) (m : Int) (hm : 0 ≤ m ∧ m ≤ 1000000000) (hc : w.cell? ⟨b, 0, none⟩ = some (.int .i64 m)) (hb : b < w.heap.size) :
    PredI Tryz.prog 167 #[.pointer (some ⟨b, 0, none⟩)] w (fun n => !(inB n (-m) m)) := by
  intro x W hW
  have hc' : W.cell? ⟨b, 0, none⟩ = some (.int .i64 m) := (hW.cell (p := ⟨b, 0, none⟩) hb).trans hc
  obtain ⟨z, hz⟩ : ∃ z, z = -m := ⟨_, rfl⟩
  have hw : IntKind.i64.wrap (-m) = z := by rw [hz]; exact IntWalk.i64_in _ (by omega)
  rw [← hz]
  obtain ⟨B, hB⟩ : ∃ B, B = inB x z m := ⟨_, rfl⟩
  have HP := hid (pwithin_c x z m W)
  rw [← hB] at HP
  simp only [← hB]
  clear hB hc hz
  show Calls Tryz.prog 167 #[.int .i64 x, .pointer (some ⟨b, 0, none⟩)] W _
  go_enter Tryz.func167, Tryz.ntmps167
  go_wp2_with (go_at_call 88; refine HP.out.mono ?_; rintro e w1 ⟨rfl, rfl⟩)
  go_ret
  exact ⟨rfl, Below.refl _ _⟩

def milB (l : List Int) : Bool := l.all (fun n => inB n (-1000000) 1000000)

end Go.Proofs.YtlffndehhhpgjaaGreat

namespace Go.Proofs.YtlffndehhhpgjaaGreat
open Go.RowKit
set_option linter.unusedVariables false
set_option linter.unusedSimpArgs false

theorem any_mil (h : List Int) : h.any (fun n => !(inB n (-1000000) 1000000)) = !milB h := by unfold milB; rw [List.not_all_eq_any_not]
theorem beyond_c (w : World) (m : Int) : Calls Tryz.prog 106 #[.int .i64 m] w fun e w' => ∃ b, e = .returned (.func (.func 167) #[] #[.pointer (some ⟨b, 0, none⟩)]) ∧ w'.cell? ⟨b, 0, none⟩ = some (.int .i64 m) ∧ b < w'.heap.size ∧ Below w.heap.size w w' := by
  go_enter Tryz.func106, Tryz.ntmps106
  go_wp2
  go_ret
  exact ⟨w.heap.size, rfl, by rw [World.cell?_alloc_at _ _ _ _ rfl]; rfl, by simp, (Below.refl _ _).alloc (Nat.le_refl _) _⟩

end Go.Proofs.YtlffndehhhpgjaaGreat

namespace Go.Proofs.YtlffndehhhpgjaaGreat
open Go.RowKit
set_option linter.unusedVariables false
set_option linter.unusedSimpArgs false

theorem mil_le {h : List Int} (e : milB h = true) : ∀ x ∈ h, -1000000 ≤ x ∧ x ≤ 1000000 := by
  intro x hx
  have := List.all_eq_true.1 e x hx
  unfold inB at this
  simp only [Bool.and_eq_true, decide_eq_true_eq] at this
  omega
end Go.Proofs.YtlffndehhhpgjaaGreat

namespace Go.Proofs.YtlffndehhhpgjaaGreat
open Go.RowKit
set_option linter.unusedVariables false
set_option linter.unusedSimpArgs false

def SomeB (e : Ending) : Prop := ∃ b, e = .returned (.bool b)
end Go.Proofs.YtlffndehhhpgjaaGreat

namespace Go.Proofs.YtlffndehhhpgjaaGreat
section
open Go.RowKit
set_option linter.unusedVariables false
set_option linter.unusedSimpArgs false

end

section
open Go.RowKit
set_option linter.unusedVariables false
set_option linter.unusedSimpArgs false

def ascB (l : List Int) : Bool := decide (∀ i, i < l.length - 1 → l[i]?.getD 0 < l[i + 1]?.getD 0)
def namedE (W : Nat) (l : List Int) : Int := if ascB l = true then (if l.all (fun p => inB p 0 ((W : Int) - 1)) = true then 0 else 5) else 7
def pixE (M : Mask) (l : List Int) : Int := if okM M = true then namedE (colsM M) l else 1
theorem asc_pair {l : List Int} (h : ascB l = true) : l.Pairwise (· < ·) := by
  have h1 : ∀ i, i < l.length - 1 → l[i]?.getD 0 < l[i + 1]?.getD 0 := of_decide_eq_true h
  have h2 : ∀ d i, i + d + 1 < l.length → l[i]?.getD 0 < l[i + d + 1]?.getD 0 := by
    intro d
    induction d with
    | zero => intro i hi; exact h1 i (by omega)
    | succ d ih => intro i hi; exact Int.lt_trans (ih i (by omega)) (h1 (i + d + 1) (by omega))
  rw [List.pairwise_iff_getElem]
  intro i j hi hj hij
  have := h2 (j - i - 1) i (by omega)
  rw [show i + (j - i - 1) + 1 = j by omega, List.getElem?_eq_getElem hi, List.getElem?_eq_getElem hj] at this
  exact this
theorem asc_no {l : List Int} {k : Nat} (hk : k + 1 < l.length) (h : ¬ l[k]?.getD 0 < l[k + 1]?.getD 0) : ascB l = false := decide_eq_false fun h1 => h (h1 k (by omega))
theorem asc_yes {l : List Int} (h : ∀ i, i + 1 < l.length → l[i]?.getD 0 < l[i + 1]?.getD 0) : ascB l = true := decide_eq_true fun i hi => h i (by omega)
theorem named_ok {W : Nat} {l : List Int} (h : namedE W l = 0) : SetOk W l := by
  unfold namedE at h
  split at h
  · rename_i h1
    split at h
    · rename_i h2
      refine ⟨asc_pair h1, fun y hy => ?_⟩
      have := List.all_eq_true.1 h2 y hy
      unfold inB at this
      simp only [Bool.and_eq_true, decide_eq_true_eq] at this
      omega
    · omega
  · omega

theorem named1 (w : World) (b : Nat) (m : Int) (hm : 0 ≤ m ∧ m ≤ 1000000000) (hc : w.cell? ⟨b, 0, none⟩ = some (.int .i64 m)) (hb : b < w.heap.size) :
    PredI Tryz.prog 248 #[.pointer (some ⟨b, 0, none⟩)] w (fun n => !(inB n 0 (m - 1))) := by
  intro x W hW
  have hc' : W.cell? ⟨b, 0, none⟩ = some (.int .i64 m) := (hW.cell (p := ⟨b, 0, none⟩) hb).trans hc
  obtain ⟨z, hz⟩ : ∃ z, z = m - 1 := ⟨_, rfl⟩
  have hw : IntKind.i64.wrap (m - 1) = z := by rw [hz]; exact IntWalk.i64_in _ (by omega)
  rw [← hz]
  obtain ⟨B, hB⟩ : ∃ B, B = inB x 0 z := ⟨_, rfl⟩
  have HP := hid (pwithin_c x 0 z W)
  rw [← hB] at HP
  simp only [← hB]
  clear hB hc hz
  show Calls Tryz.prog 248 #[.int .i64 x, .pointer (some ⟨b, 0, none⟩)] W _
  go_enter Tryz.func248, Tryz.ntmps248
  go_wp2_with (go_at_call 88; refine HP.out.mono ?_; rintro e w1 ⟨rfl, rfl⟩)
  go_ret
  exact ⟨rfl, Below.refl _ _⟩

set_option maxHeartbeats 1000000 in
theorem named_c (w : World) (W : Nat) (hW : W ≤ 1000) (a : Option Addr) (n cap : Nat) (l : List Int) (hn : l.length = n) (hm : n ≤ maxLen) (H : IntsAt w a l) :
    Calls Tryz.prog 213 #[.int .i64 W, .slice a n cap] w fun e w' => e = .returned (.int .i64 (namedE W l)) ∧ Below w.heap.size w w' := by
  have HN := hid hn
  have HH := hid (fun (X : World) (hX : Below w.heap.size w X) => H.below hX)
  obtain ⟨E, hE⟩ : ∃ E, E = namedE W l := ⟨_, rfl⟩
  rw [← hE]
  have HE := hid hE
  clear hn H hE
  have hm' : n ≤ 9223372036854775807 := by unfold maxLen at hm; omega
  go_enter Tryz.func213, Tryz.ntmps213
  obtain ⟨w1, hw1⟩ : ∃ w1, w1 = w.alloc (.cells #[.int .i64 W] 3) := ⟨_, rfl⟩
  have hb1 : Below w.heap.size w w1 := by rw [hw1]; exact (Below.refl _ _).alloc (Nat.le_refl _) _
  have hc1 : w1.cell? ⟨w.heap.size, 0, none⟩ = some (.int .i64 W) := by rw [hw1, World.cell?_alloc_at _ _ _ _ rfl]; rfl
  have hs1 : w.heap.size < w1.heap.size := by rw [hw1]; simp
  have HB1 := hid hb1
  have HC1 := hid hc1
  have HW1 := hid hw1
  clear hb1 hc1 hw1
  go_wp2
  try rw [← HW1.out]
  go_loopw [9] (fun i wr => ∃ k : Nat, k ≤ n ∧ i = .int .i64 k ∧ wr = w1 ∧ Hid (∀ i, i + 1 < k → l[i]?.getD 0 < l[i + 1]?.getD 0)) (fun i _ => n - (intOf i).toNat)
  case atStart => exact ⟨0, Nat.zero_le _, rfl, by first | exact HW1.out.symm | rfl, hid (fun i h => by omega)⟩
  case round =>
    obtain ⟨k, hk, rfl, rfl, HNO⟩ := hrel
    by_cases hlt : k < n
    · have hkl : k < l.length := by rw [HN.out]; exact hlt
      obtain ⟨b, off, rfl, hbs, hc⟩ := (HH.out wr HB1.out) k hkl
      rcases Nat.eq_zero_or_pos k with h0 | h0
      · subst h0
        obtain ⟨x, hx⟩ : ∃ x, x = l[0]?.getD 0 := ⟨_, rfl⟩
        rw [← hx, Nat.add_zero] at hc
        clear hx hkl
        go_wp2
        exact ⟨⟨1, by omega, by go_num, by first | trivial | rfl, hid (fun i h => by omega)⟩, by simp [intOf]; omega⟩
      · obtain ⟨p, rfl⟩ : ∃ p, k = p + 1 := ⟨k - 1, by omega⟩
        obtain ⟨b', off', e', _, hc2⟩ := (HH.out wr HB1.out) p (by omega)
        cases e'
        have hpi : ((p + 1 : Nat) : Int) - 1 = (p : Int) := by omega
        have hpn : (p : Int) < (n : Int) := by omega
        have hpp : (0 : Int) < ((p + 1 : Nat) : Int) := by omega
        have HNO2 := hid (fun (h : ¬ l[p]?.getD 0 < l[p + 1]?.getD 0) => asc_no (by rw [HN.out]; exact hlt) h)
        have HNX := hid (fun (h : l[p]?.getD 0 < l[p + 1]?.getD 0) => (show ∀ i, i + 1 < p + 1 + 1 → l[i]?.getD 0 < l[i + 1]?.getD 0 from fun i hi => by
          rcases Nat.lt_or_ge i p with h1 | h1
          · exact HNO.out i (by omega)
          · have : i = p := by omega
            subst this; exact h))
        obtain ⟨x, hx⟩ : ∃ x, x = l[p + 1]?.getD 0 := ⟨_, rfl⟩
        obtain ⟨y, hy⟩ : ∃ x, x = l[p]?.getD 0 := ⟨_, rfl⟩
        rw [← hx] at hc HNO2 HNX
        rw [← hy] at hc2 HNO2 HNX
        clear hx hy hkl
        by_cases hle : x ≤ y
        · have HA := hid (HNO2.out (by omega))
          obtain rfl : E = 7 := by rw [HE.out]; unfold namedE; rw [HA.out]; rfl
          go_wp2
          go_ret
          exact ⟨rfl, HB1.out⟩
        · have HX := hid (HNX.out (by omega))
          go_wp2
          exact ⟨⟨p + 1 + 1, by omega, by go_num, by first | trivial | rfl, HX⟩, by simp [intOf]; omega⟩
    · obtain rfl : n = k := by omega
      have HA := hid (asc_yes (l := l) (fun i hi => HNO.out i (by rw [← HN.out]; exact hi)))
      have HCF := hid (containsI wr a n cap l HN.out hm (HH.out wr HB1.out) 248 #[.pointer (some ⟨w.heap.size, 0, none⟩)] (fun p => !(inB p 0 ((W : Int) - 1))) (enters_of Tryz.func248 (by kernel_rfl) rfl) (named1 wr w.heap.size W (by omega) HC1.out hs1))
      have hany : l.any (fun p => !(inB p 0 ((W : Int) - 1))) = !(l.all (fun p => inB p 0 ((W : Int) - 1))) := by rw [List.not_all_eq_any_not]
      rw [hany] at HCF
      have hee := HE.out
      unfold namedE at hee
      rw [if_pos HA.out] at hee
      clear hany HNO
      cases hall : l.all (fun p => inB p 0 ((W : Int) - 1))
      · rw [hall] at HCF hee
        obtain rfl : E = 5 := hee
        clear hall
        go_wp2_with (go_at_call 105; refine HCF.out.mono ?_; rintro e w3 ⟨rfl, hb3⟩)
        go_ret
        exact ⟨rfl, chain HB1.out hb3⟩
      · rw [hall] at HCF hee
        obtain rfl : E = 0 := hee
        clear hall
        go_wp2_with (go_at_call 105; refine HCF.out.mono ?_; rintro e w3 ⟨rfl, hb3⟩)
        go_ret
        exact ⟨rfl, chain HB1.out hb3⟩

theorem pixels_c (w : World) (a a2 : Option Addr) (n cap n2 cap2 : Nat) (M : Mask) (l : List Int) (hn : M.length = n) (hn2 : l.length = n2) (hm : n ≤ maxLen) (hm2 : n2 ≤ maxLen) (H : RowsAt w a M) (H2 : IntsAt w a2 l) :
    Calls Tryz.prog 163 #[.slice a n cap, .slice a2 n2 cap2] w fun e w' => e = .returned (.int .i64 (pixE M l)) ∧ Below w.heap.size w w' := by
  have HV := hid (maskValid_c w a n cap M hn hm H)
  cases hok : okM M
  · rw [hok] at HV
    have he : pixE M l = 1 := by unfold pixE; rw [hok]; rfl
    rw [he]
    clear hn hn2 H H2 hok he
    go_enter Tryz.func163, Tryz.ntmps163
    go_wp2_with (go_at_call 79; refine HV.out.mono ?_; rintro e w1 ⟨rfl, hb1⟩)
    go_ret
    exact ⟨rfl, hb1⟩
  · rw [hok] at HV
    have he : pixE M l = namedE (colsM M) l := by unfold pixE; rw [if_pos hok]
    rw [he]
    obtain ⟨hM, h1, h6, hc1, hc10⟩ := okM_ok hok
    obtain ⟨b, off, ra, rc, rfl, hb, hc⟩ := rows_head H (by omega)
    have hz : (0 : Int) < (n : Int) := by omega
    obtain ⟨W, hW⟩ : ∃ W, W = colsM M := ⟨_, rfl⟩
    rw [← hW] at hc hc1 hc10 ⊢
    have HS := hid (fun (X : World) (hX : Below w.heap.size w X) => (hX.cell (p := ⟨b, off, none⟩) hb).trans hc)
    have HNM := hid (fun (X : World) (hX : Below w.heap.size w X) => named_c X W (by omega) a2 n2 cap2 l hn2 hm2 (H2.below hX))
    obtain ⟨E, hE⟩ : ∃ E, E = namedE W l := ⟨_, rfl⟩
    rw [← hE] at HNM ⊢
    clear hn hn2 H H2 hok he hM hW hE hc hb
    go_enter Tryz.func163, Tryz.ntmps163
    go_wp2_with (go_at_call 79; refine HV.out.mono ?_; rintro e w1 ⟨rfl, hb1⟩; refine Stop.of ?_)
    refine Stop.go ?_
    have hc1' := HS.out w1 hb1
    have HB1 := hid hb1
    clear hb1
    go_wp2_with (go_at_call 213; refine (HNM.out w1 HB1.out).mono ?_; rintro e w2 ⟨rfl, hb2⟩)
    go_ret
    exact ⟨rfl, chain HB1.out hb2⟩

theorem pix_ok {M : Mask} {l : List Int} (h : pixE M l = 0) : okM M = true ∧ SetOk (colsM M) l := by
  unfold pixE at h
  split at h
  · rename_i h1; exact ⟨h1, named_ok h⟩
  · omega
theorem set_le {W : Nat} {l : List Int} (h : SetOk W l) : l.length ≤ W := by
  have h1 : (l.map Int.toNat).Pairwise (· < ·) := by
    rw [List.pairwise_map]
    refine h.1.imp_of_mem fun {a b} ha hb hab => ?_
    have := h.2 a ha
    have := h.2 b hb
    omega
  have := asc_le (a := 0) (b := W) h1 (fun x hx => by
    obtain ⟨y, hy, rfl⟩ := List.mem_map.1 hx
    have := h.2 y hy
    omega)
  rw [List.length_map] at this
  omega

end

section
open Go.RowKit
set_option linter.unusedVariables false
set_option linter.unusedSimpArgs false

end
end Go.Proofs.YtlffndehhhpgjaaGreat

namespace Go.Proofs.YtlffndehhhpgjaaGreat
section
open Go.RowKit
set_option linter.unusedVariables false
set_option linter.unusedSimpArgs false

abbrev Rt := Int × Int
def ratV (r : Rt) : Value := .agg #[.int .i64 r.1, .int .i64 r.2]
def ratCells (r : Rt) : List Value := [.int .i64 r.1, .int .i64 r.2]
def ratVals (l : List Rt) : List Value := l.flatMap ratCells
theorem ratVals_snoc (l : List Rt) (f : Rt) : ratVals (l ++ [f]) = ratVals l ++ ratCells f := by simp [ratVals]
theorem ratVals_length (l : List Rt) : (ratVals l).length = l.length * 2 := by
  induction l with
  | nil => rfl
  | cons f l ih => show (ratCells f ++ ratVals l).length = _; rw [List.length_append, ih]; simp [ratCells]; omega
theorem ratVals_at (l : List Rt) : ∀ (j i : Nat) (hj : j < l.length), i < 2 → (ratVals l)[j * 2 + i]? = (ratCells l[j])[i]? := by
  induction l with
  | nil => intro j i hj; simp at hj
  | cons f l ih =>
    intro j i hj hi
    show (ratCells f ++ ratVals l)[j * 2 + i]? = _
    cases j with
    | zero => rw [List.getElem?_append_left (by simp [ratCells]; omega)]; simp
    | succ j =>
      rw [List.getElem?_append_right (by simp [ratCells]; omega)]
      have := ih j i (by simpa using hj) hi
      rw [show (j + 1) * 2 + i - (ratCells f).length = j * 2 + i by simp [ratCells]; omega, this]
      simp

def RatsAt (w : World) (a : Option Addr) (l : List Rt) : Prop :=
  ∀ j (hj : j < l.length), ∃ b off, a = some ⟨b, off, none⟩ ∧ b < w.heap.size ∧ w.cell? ⟨b, off + j * 2, none⟩ = some (.int .i64 l[j].1) ∧ w.cell? ⟨b, off + j * 2 + 1, none⟩ = some (.int .i64 l[j].2)
theorem RatsAt.below {w w' : World} {a : Option Addr} {l : List Rt} (h : RatsAt w a l) (hb : Below w.heap.size w w') : RatsAt w' a l := by
  intro j hj
  obtain ⟨b, off, e, hlt, h0, h1⟩ := h j hj
  exact ⟨b, off, e, Nat.lt_of_lt_of_le hlt hb.size, (hb.cell (p := ⟨b, _, none⟩) hlt).trans h0, (hb.cell (p := ⟨b, _, none⟩) hlt).trans h1⟩

def RatsO (W : World) (base : Nat) (v : Value) (l : List Rt) : Prop := W.ownsRow base 29 2 v l.length (ratVals l)
theorem RatsO.nil (W : World) (base : Nat) : RatsO W base (.slice none 0 0) [] := World.ownsRow_nil _ _ _ _
theorem RatsO.below {W W' : World} {base : Nat} {v : Value} {l : List Rt} (h : RatsO W base v l) (hb : Below W.heap.size W W') : RatsO W' base v l := own_below h hb
theorem RatsO.reads {W : World} {base : Nat} {v : Value} {l : List Rt} (h : RatsO W base v l) : ∃ a cap, v = .slice a l.length cap ∧ l.length ≤ maxLen ∧ RatsAt W a l := by
  rcases h.2 with ⟨rfl, h0⟩ | ⟨g, cap, cur, rfl, hbg, hgg, hnc, hcm, hsz, htk⟩
  · exact ⟨none, 0, by rw [h0], by rw [h0]; decide, fun j hj => by omega⟩
  · refine ⟨_, cap, rfl, by omega, fun j hj => ⟨g, 0, rfl, (Array.getElem?_eq_some_iff.1 hgg).1, ?_⟩⟩
    have hc : ∀ i, i < l.length * 2 → W.cell? ⟨g, i, none⟩ = (ratVals l)[i]? := fun i hi =>
      World.ownsRow.cellAt (w := W) (base := base) (e := 29) (size := 2) (g := g) (n := l.length) (cap := cap) (xs := ratVals l) ⟨h.1, .inr ⟨g, cap, cur, rfl, hbg, hgg, hnc, hcm, hsz, htk⟩⟩ i hi
    refine ⟨?_, ?_⟩
    · rw [Nat.zero_add, hc _ (by omega)]; exact ratVals_at l j 0 hj (by omega)
    · rw [Nat.zero_add, hc _ (by omega)]; exact ratVals_at l j 1 hj (by omega)
theorem info_ratio : (Tryz.prog.info? 29).map (fun i => (i.zero, i.size, i.bytes)) = some (some (.agg #[.int .i64 0, .int .i64 0]), 2, 16) := by kernel_rfl
theorem rat_one (f : Rt) : ∀ u ∈ ratCells f, u.oneCell' = true := by
  intro u hu
  simp only [ratCells, List.mem_cons, List.not_mem_nil, or_false] at hu
  rcases hu with rfl | rfl <;> rfl
theorem rat_news (w : World) (f : Rt) (T : TypeId) : ∀ ad, (some ⟨w.heap.size, 0, none⟩ : Option Addr) = some ad → ∀ j u, (ratCells f)[j]? = some u → (w.alloc (.cells (ratCells f).toArray T)).cell? (ad.add j) = some u := by
  intro ad e j u hu
  cases e
  rw [Addr.add_lit, World.cell?_alloc_at _ _ _ _ rfl]
  simpa using hu

theorem tdiv_bndR {x g : Int} (hx : -4611686018427387904 ≤ x ∧ x ≤ 4611686018427387904) : -4611686018427387904 ≤ x.tdiv g ∧ x.tdiv g ≤ 4611686018427387904 := by
  have h := Int.natAbs_tdiv x g
  have h2 : (x.tdiv g).natAbs ≤ x.natAbs := by rw [Int.natAbs_tdiv]; exact Nat.div_le_self _ _
  omega

set_option maxRecDepth 100000 in
set_option maxHeartbeats 1000000 in
theorem of_c (w : World) (n d : Int) (hn : -4611686018427387904 ≤ n ∧ n ≤ 4611686018427387904) (hd : -4611686018427387904 ≤ d ∧ d ≤ 4611686018427387904) (h0 : d ≠ 0) :
    Calls Tryz.prog 152 #[.int .i64 n, .int .i64 d] w fun e w' => e = .returned (ratV (ofF n d)) ∧ Below w.heap.size w w' := by
  have HD := hid (fun (X : World) => divisor_c X n d hn hd)
  have hg0 : 0 < Int.gcd n d := Nat.pos_of_ne_zero (fun h => h0 (Int.gcd_eq_zero_iff.1 h).2)
  have hgl : Int.gcd n d ≤ 4611686018427387904 := by
    have := Int.gcd_le_natAbs_right n h0
    omega
  obtain ⟨G, hG⟩ : ∃ G : Int, G = ((Int.gcd n d : Nat) : Int) := ⟨_, rfl⟩
  unfold ofF
  simp only []
  rw [← hG] at HD ⊢
  have hG1 : 1 ≤ G := by omega
  have hG2 : G ≤ 4611686018427387904 := by omega
  clear hG hg0 hgl
  have b1 := tdiv_bndR (g := G) hn
  have b2 := tdiv_bndR (g := G) hd
  by_cases hs : d < 0
  · rw [if_pos hs]
    obtain ⟨m, hm⟩ : ∃ m : Int, m = -G := ⟨_, rfl⟩
    rw [← hm]
    have b3 := tdiv_bndR (g := m) hn
    have b4 := tdiv_bndR (g := m) hd
    have hw1 : IntKind.i64.wrap (n.tdiv m) = n.tdiv m := IntWalk.i64_in _ (by omega)
    have hw2 : IntKind.i64.wrap (d.tdiv m) = d.tdiv m := IntWalk.i64_in _ (by omega)
    have hw00 : wrap64 (-G) = m := by unfold wrap64; omega
    have hne : ¬ (m = 0) := by omega
    clear b1 b2 b3 b4 h0 hm hG1 hG2 hn hd
    go_enter Tryz.func152, Tryz.ntmps152
    go_wp2_with (go_at_call 206; refine (HD.out _).mono ?_; rintro e w1 ⟨rfl, k1, rfl⟩; refine Stop.of ?_)
    refine Stop.go ?_
    have hb1 : Below w.heap.size w ((w.alloc (.cells #[.int .i64 0, .int .i64 0] 29)).drewN k1) := below_drewN ((Below.refl _ w).alloc (Nat.le_refl _) _) k1
    have hq1 : ((w.alloc (.cells #[.int .i64 0, .int .i64 0] 29)).drewN k1).heap[w.heap.size]? = some (.cells #[.int .i64 0, .int .i64 0] 29 (0, 0)) := World.alloc_heap_new w _
    generalize (w.alloc (.cells #[.int .i64 0, .int .i64 0] 29)).drewN k1 = w2 at hb1 hq1 ⊢
    go_wp2
    go_still_tail 7, (by kernel_rfl)
    change wpList _ _ _ _ _ w2.drew
    have hb2 := hb1.drew
    have hq2 : w2.drew.heap[w.heap.size]? = some (.cells #[.int .i64 0, .int .i64 0] 29 (0, 0)) := hq1
    generalize w2.drew = w3 at hb2 hq2 ⊢
    have c0 : w3.cell? ⟨w.heap.size, 0, none⟩ = some (.int .i64 0) := by simp [World.cell?, hq2]
    have c1 : w3.cell? ⟨w.heap.size, 1, none⟩ = some (.int .i64 0) := by simp [World.cell?, hq2]
    have f0 : w3.frozen? ⟨w.heap.size, 0, none⟩ = false := by simp [World.frozen?, hq2]
    have f1 : w3.frozen? ⟨w.heap.size, 1, none⟩ = false := by simp [World.frozen?, hq2]
    have hlt3 : w.heap.size < w3.heap.size := (Array.getElem?_eq_some_iff.1 hq2).1
    go_wp2
    simp [bodyPost, results, Tryz.results152, go_sem, c0, c1, f0, f1, hlt3]
    exact ⟨rfl, below_set (below_set hb2 (Nat.le_refl _) 0 _) (Nat.le_refl _) 1 _⟩
  · rw [if_neg hs]
    have hw1 : IntKind.i64.wrap (n.tdiv G) = n.tdiv G := IntWalk.i64_in _ (by omega)
    have hw2 : IntKind.i64.wrap (d.tdiv G) = d.tdiv G := IntWalk.i64_in _ (by omega)
    have hne : ¬ (G = 0) := by omega
    clear b1 b2 h0 hG1 hG2 hn hd
    go_enter Tryz.func152, Tryz.ntmps152
    go_wp2_with (go_at_call 206; refine (HD.out _).mono ?_; rintro e w1 ⟨rfl, k1, rfl⟩; refine Stop.of ?_)
    refine Stop.go ?_
    have hb1 : Below w.heap.size w ((w.alloc (.cells #[.int .i64 0, .int .i64 0] 29)).drewN k1) := below_drewN ((Below.refl _ w).alloc (Nat.le_refl _) _) k1
    have hq1 : ((w.alloc (.cells #[.int .i64 0, .int .i64 0] 29)).drewN k1).heap[w.heap.size]? = some (.cells #[.int .i64 0, .int .i64 0] 29 (0, 0)) := World.alloc_heap_new w _
    generalize (w.alloc (.cells #[.int .i64 0, .int .i64 0] 29)).drewN k1 = w2 at hb1 hq1 ⊢
    go_wp2
    go_still_tail 7, (by kernel_rfl)
    change wpList _ _ _ _ _ w2.drew
    have hb2 := hb1.drew
    have hq2 : w2.drew.heap[w.heap.size]? = some (.cells #[.int .i64 0, .int .i64 0] 29 (0, 0)) := hq1
    generalize w2.drew = w3 at hb2 hq2 ⊢
    have c0 : w3.cell? ⟨w.heap.size, 0, none⟩ = some (.int .i64 0) := by simp [World.cell?, hq2]
    have c1 : w3.cell? ⟨w.heap.size, 1, none⟩ = some (.int .i64 0) := by simp [World.cell?, hq2]
    have f0 : w3.frozen? ⟨w.heap.size, 0, none⟩ = false := by simp [World.frozen?, hq2]
    have f1 : w3.frozen? ⟨w.heap.size, 1, none⟩ = false := by simp [World.frozen?, hq2]
    have hlt3 : w.heap.size < w3.heap.size := (Array.getElem?_eq_some_iff.1 hq2).1
    go_wp2
    simp [bodyPost, results, Tryz.results152, go_sem, c0, c1, f0, f1, hlt3]
    exact ⟨rfl, below_set (below_set hb2 (Nat.le_refl _) 0 _) (Nat.le_refl _) 1 _⟩

end

section
open Go.RowKit
set_option linter.unusedVariables false
set_option linter.unusedSimpArgs false

def readE (M : Mask) (y : List Int) : Int := if y.length = M.length then (if milB y = true then 0 else 7) else 9
def checkE (M : Mask) (y l : List Int) : Int := if okM M = true then (if y.length = M.length then (if milB y = true then pixE M l else 7) else 9) else 1

set_option maxHeartbeats 1000000 in
theorem check_c (w : World) (a a2 a3 : Option Addr) (n cap n2 cap2 n3 cap3 : Nat) (M : Mask) (y l : List Int) (hn : M.length = n) (hn2 : y.length = n2) (hn3 : l.length = n3) (hm : n ≤ maxLen) (hm2 : n2 ≤ maxLen) (hm3 : n3 ≤ maxLen) (H : RowsAt w a M) (H2 : IntsAt w a2 y) (H3 : IntsAt w a3 l) :
    Calls Tryz.prog 101 #[.slice a n cap, .slice a2 n2 cap2, .slice a3 n3 cap3] w fun e w' => e = .returned (.int .i64 (checkE M y l)) ∧ Below w.heap.size w w' := by
  have HV := hid (maskValid_c w a n cap M hn hm H)
  cases hok : okM M
  · rw [hok] at HV
    have hp : checkE M y l = 1 := by unfold checkE; rw [hok]; rfl
    rw [hp]
    clear hn hn2 hn3 H H2 H3 hok hp
    go_enter Tryz.func101, Tryz.ntmps101
    go_wp2_with (go_at_call 79; refine HV.out.mono ?_; rintro e w1 ⟨rfl, hb1⟩)
    go_ret
    exact ⟨rfl, hb1⟩
  · rw [hok] at HV
    by_cases hl : n2 = n
    · subst hl
      have HII := hid (fun (X : World) (hX : Below w.heap.size w X) => H2.below hX)
      have HN2 := hid hn2
      have HPX := hid (fun (X : World) (hX : Below w.heap.size w X) => pixels_c X a a3 n2 cap n3 cap3 M l hn hn3 hm hm3 (H.below hX) (H3.below hX))
      have hdl : ((n2 : Int) != (n2 : Int)) = false := by simp
      have hpre : checkE M y l = if milB y = true then pixE M l else 7 := by unfold checkE; rw [if_pos hok, if_pos (by omega)]
      rw [hpre]
      obtain ⟨E, hE⟩ : ∃ E, E = pixE M l := ⟨_, rfl⟩
      rw [← hE] at HPX ⊢
      obtain ⟨mz, hmz⟩ : ∃ b, b = milB y := ⟨_, rfl⟩
      have HMZ := hid hmz
      rw [← hmz]
      clear hn H H2 H3 hok hn2 hn3 hpre hE hmz
      cases mz
      all_goals
        simp only [if_true, if_false, Bool.false_eq_true]
        go_enter Tryz.func101, Tryz.ntmps101
        go_wp2_with (go_at_call 79; refine HV.out.mono ?_; rintro e w1 ⟨rfl, hb1⟩; refine Stop.of ?_)
        refine Stop.go ?_
        have HBW1 := hid hb1
        clear hb1 HV
        go_wp2_with (go_at_call 106; refine (beyond_c _ 1000000).mono ?_; rintro e w2 ⟨q, rfl, hq, hqs, hb2⟩; refine Stop.of ?_)
        refine Stop.go ?_
        have HB2 := hid (chain HBW1.out hb2)
        have HCF := hid (containsI w2 a2 n2 cap2 y HN2.out hm2 (HII.out w2 HB2.out) 167 #[.pointer (some ⟨q, 0, none⟩)] (fun n => !(inB n (-1000000) 1000000)) (enters_of Tryz.func167 (by kernel_rfl) rfl) (beyond1 w2 q 1000000 (by decide) hq hqs))
        rw [any_mil, ← HMZ.out] at HCF
        clear hq hqs hb2
      · go_wp2_with (go_at_call 105; refine HCF.out.mono ?_; rintro e w3 ⟨rfl, hb3⟩)
        go_ret
        exact ⟨rfl, chain HB2.out hb3⟩
      · go_wp2_with (go_at_call 105; refine HCF.out.mono ?_; rintro e w3 ⟨rfl, hb3⟩; refine Stop.of ?_)
        refine Stop.go ?_
        have HB3 := hid (chain HB2.out hb3)
        clear HCF hb3
        go_wp2_with (go_at_call 163; refine (HPX.out w3 HB3.out).mono ?_; rintro e w4 ⟨rfl, hb4⟩)
        go_ret
        exact ⟨rfl, chain HB3.out hb4⟩
    · have hdl : ((n2 : Int) != (n : Int)) = true := by simp; omega
      have hpre : checkE M y l = 9 := by unfold checkE; rw [if_pos hok, if_neg (by omega)]
      rw [hpre]
      clear hn hn2 hn3 H H2 H3 hok hpre hl
      go_enter Tryz.func101, Tryz.ntmps101
      go_wp2_with (go_at_call 79; refine HV.out.mono ?_; rintro e w1 ⟨rfl, hb1⟩)
      go_ret
      exact ⟨rfl, hb1⟩

theorem r3reading_c (w : World) (a : Option Addr) (n cap n2 cap2 : Nat) (M : Mask) (l : List Int) (V0 : Option Addr) (hn : M.length = n) (hn2 : l.length = n2) (hm2 : n2 ≤ maxLen) (H : IntsAt w a l) :
    Calls Tryz.prog 134 #[.slice V0 n cap, .slice a n2 cap2] w fun e w' => e = .returned (.int .i64 (readE M l)) ∧ w = w' := by
  by_cases hl : n2 = n
  · subst hl
    have he : readE M l = if milB l = true then 0 else 7 := by unfold readE; rw [if_pos (by omega)]
    rw [he]
    have HN := hid hn2
    have HH := hid H
    obtain ⟨E, hE⟩ : ∃ E : Int, E = if milB l = true then 0 else 7 := ⟨_, rfl⟩
    rw [← hE]
    have HE := hid hE
    have hdl : ((n2 : Int) != (n2 : Int)) = false := by simp
    clear hn hn2 H he hE
    unfold maxLen at hm2
    go_enter Tryz.func134, Tryz.ntmps134
    go_wp2
    go_loop [14] (fun i => ∃ k : Nat, k ≤ n2 ∧ i = .int .i64 k ∧ Hid (∀ j (hj : j < l.length), j < k → inB l[j] (-1000000) 1000000 = true)) (fun i => n2 - (intOf i).toNat)
    case atStart => exact ⟨0, Nat.zero_le _, rfl, hid (fun j _ h => by omega)⟩
    case round =>
      obtain ⟨k, hk, rfl, HNO⟩ := hrel
      by_cases hlt : k < n2
      · have hkl : k < l.length := by rw [HN.out]; exact hlt
        obtain ⟨b, off, rfl, hbs, hc⟩ := HH.out k hkl
        have hg : l[k]?.getD 0 = l[k] := by rw [List.getElem?_eq_getElem hkl]; rfl
        rw [hg] at hc
        have HST := hid (fun (h : inB l[k] (-1000000) 1000000 = false) => (all_stop (p := fun n : Int => inB n (-1000000) 1000000) hkl h : milB l = false))
        have HNX := hid (fun (h : inB l[k] (-1000000) 1000000 = true) => (show ∀ j (hj : j < l.length), j < k + 1 → inB l[j] (-1000000) 1000000 = true from fun j hj hlt => by
          rcases Nat.lt_or_ge j k with h1 | h1
          · exact HNO.out j hj h1
          · have : j = k := by omega
            subst this; exact h))
        obtain ⟨x, hx⟩ : ∃ x, x = l[k] := ⟨_, rfl⟩
        rw [← hx] at hc HST HNX
        obtain ⟨B, hB⟩ : ∃ B, B = inB x (-1000000) 1000000 := ⟨_, rfl⟩
        have HW := hid (fun (W : World) => r3within_c x (-1000000) 1000000 W)
        rw [← hB] at HW HST HNX
        clear hg hx hkl hB
        cases B
        · have HX := hid (HST.out rfl)
          obtain rfl : E = 7 := by rw [HE.out, if_neg (by rw [show milB l = false from HX.out]; decide)]
          clear HST HNX
          go_wp2_with (go_at_call 174; refine (HW.out _).mono ?_; rintro e w1 ⟨rfl, rfl⟩)
          go_ret
          exact ⟨rfl, rfl⟩
        · have HX := hid (HNX.out rfl)
          clear HST HNX
          go_wp2_with (go_at_call 174; refine (HW.out _).mono ?_; rintro e w1 ⟨rfl, rfl⟩)
          go_round
          case rel => exact ⟨k + 1, by omega, by go_num, HX⟩
          case measure => simp [intOf]; omega
      · have hall : milB l = true := all_done (p := fun n : Int => inB n (-1000000) 1000000) (fun j hj => HNO.out j hj (by have := HN.out; omega))
        obtain rfl : E = 0 := by rw [HE.out, if_pos hall]
        go_wp2
        go_ret
        exact ⟨rfl, rfl⟩
  · have he : readE M l = 9 := by unfold readE; rw [if_neg (by omega)]
    rw [he]
    have hdl : ((n2 : Int) != (n : Int)) = true := by simp; omega
    clear hn hn2 H he hl
    go_enter Tryz.func134, Tryz.ntmps134
    go_wp2
    go_ret
    exact ⟨rfl, rfl⟩
end

section
open Go.RowKit
set_option linter.unusedVariables false
set_option linter.unusedSimpArgs false

theorem solve1 (w : World) (b : Nat) (a : Option Addr) (n cap N : Nat) (y : List Int) (hn : y.length = n) (hN : N ≤ n) (hm : n ≤ maxLen) (hc : w.cell? ⟨b, 0, none⟩ = some (.slice a n cap)) (hb : b < w.heap.size) (H : IntsAt w a y) :
    MoreP Tryz.prog 265 #[.pointer (some ⟨b, 0, none⟩)] w N (fun i => [y[i]?.getD 0]) := by
  intro i W hi hW
  have hc' : W.cell? ⟨b, 0, none⟩ = some (.slice a n cap) := (hW.cell (p := ⟨b, 0, none⟩) hb).trans hc
  obtain ⟨b2, o2, rfl, hb2, hc2⟩ := (H.below hW) i (by omega)
  show Calls Tryz.prog 265 #[.int .i64 i, .pointer (some ⟨b, 0, none⟩)] W fun e W' => ∃ a c, e = .returned (.slice a 1 c) ∧ IntsAt W' a [y[i]?.getD 0] ∧ Below W.heap.size W W'
  obtain ⟨x, hx⟩ : ∃ x, x = y[i]?.getD 0 := ⟨_, rfl⟩
  rw [← hx] at hc2 ⊢
  have hin : (i : Int) < (n : Int) := by omega
  unfold maxLen at hm
  clear hn H hc hx
  go_enter Tryz.func265, Tryz.ntmps265
  go_wp2
  go_ret
  refine ⟨some ⟨W.heap.size, 0, none⟩, 1, rfl, fun j hj => ⟨W.heap.size, 0, rfl, by simp, ?_⟩, (Below.refl _ _).alloc (Nat.le_refl _) _⟩
  obtain rfl : j = 0 := by simpa using hj
  rw [World.cell?_alloc_at _ _ _ _ rfl]; rfl

theorem chosenF_y {M : List (List Int)} {S y : List Int} (h : y.length = M.length) : chosenF M S (fun i => [y[i]?.getD 0]) = withY (colsF M S) y := by
  unfold chosenF withY colsF
  refine List.ext_getElem (by simp [h]) fun i h1 h2 => ?_
  have hi : i < M.length := by simpa using h1
  simp [List.getElem?_eq_getElem (show i < y.length by omega)]

def solveV (M : Mask) (l y : List Int) : List Rt × Int := if checkE M y l = 0 then solveP (withY (colsF M l) y) l.length else ([], checkE M y l)
theorem check_ok {M : Mask} {y l : List Int} (h : checkE M y l = 0) : okM M = true ∧ y.length = M.length ∧ milB y = true ∧ SetOk (colsM M) l := by
  unfold checkE at h
  by_cases h1 : okM M = true
  · rw [if_pos h1] at h
    by_cases h2 : y.length = M.length
    · rw [if_pos h2] at h
      by_cases h3 : milB y = true
      · rw [if_pos h3] at h
        exact ⟨h1, h2, h3, (pix_ok h).2⟩
      · rw [if_neg h3] at h; omega
    · rw [if_neg h2] at h; omega
  · rw [if_neg h1] at h; omega
theorem mil_bnd6 {y : List Int} (h : milB y = true) : ∀ v ∈ y, -((1000000 : Nat) : Int) ≤ v ∧ v ≤ ((1000000 : Nat) : Int) := by
  intro v hv
  have := List.all_eq_true.1 h v hv
  unfold inB at this
  simp only [Bool.and_eq_true, decide_eq_true_eq] at this
  omega
def ofTo (R : List (List Int)) (J : List Nat) (n k : Nat) : List Rt := (List.range k).map fun i => ofF (vec (R[i]?.getD []) n) (vec (R[i]?.getD []) (jf J i))
theorem ofTo_len (R : List (List Int)) (J : List Nat) (n k : Nat) : (ofTo R J n k).length = k := by simp [ofTo]
theorem ofTo_succ (R : List (List Int)) (J : List Nat) (n k : Nat) : ofTo R J n (k + 1) = ofTo R J n k ++ [ofF (vec (R[k]?.getD []) n) (vec (R[k]?.getD []) (jf J k))] := by
  unfold ofTo; rw [List.range_succ, List.map_append]; rfl

def SolveSt (wr : World) (base : Nat) (v : Value) (R : List (List Int)) (J : List Nat) (n k : Nat) : Prop := RatsO wr base v (ofTo R J n (min k J.length)) ∧ ∀ q, J.length ≤ q → q < k → vec (R[q]?.getD []) n = 0
theorem solve_end {C : List (List Int)} {n : Nat} (hK : (pRed C n).2.length ≤ n) (h0 : ∀ q, (pRed C n).2.length ≤ q → q < (pRed C n).1.length → vec ((pRed C n).1[q]?.getD []) n = 0) :
    solveP C n = if (pRed C n).2.length < n then ([], 11) else (ofTo (pRed C n).1 (pRed C n).2 n (pRed C n).2.length, 0) := by
  unfold solveP
  simp only []
  have h1 : ((pRed C n).1.drop (pRed C n).2.length).any (nz n) = false := by
    rw [Bool.eq_false_iff]
    intro hc
    obtain ⟨r, hr, hz⟩ := List.any_eq_true.1 hc
    obtain ⟨i, hi, rfl⟩ := List.mem_iff_getElem.1 hr
    rw [List.getElem_drop] at hz
    have := h0 ((pRed C n).2.length + i) (by omega) (by rw [List.length_drop] at hi; omega)
    rw [List.getElem?_eq_getElem (by rw [List.length_drop] at hi; omega)] at this
    simp only [nz, decide_eq_true_eq] at hz
    exact hz this
  rw [h1]
  simp only [Bool.false_eq_true, if_false]
  by_cases c : (pRed C n).2.length < n
  · rw [if_pos c, if_pos c]
  · rw [if_neg c, if_neg c]
    have : (pRed C n).2.length = n := by omega
    rw [this]; rfl
theorem solve_none {C : List (List Int)} {n q : Nat} (h1 : (pRed C n).2.length ≤ q) (h2 : q < (pRed C n).1.length) (h3 : vec ((pRed C n).1[q]?.getD []) n ≠ 0) : solveP C n = ([], 8) := by
  unfold solveP
  simp only []
  rw [if_pos]
  refine List.any_eq_true.2 ⟨(pRed C n).1[q], ?_, ?_⟩
  · rw [List.mem_drop_iff_getElem]; exact ⟨q - (pRed C n).2.length, by omega, by congr 1; omega⟩
  · rw [List.getElem?_eq_getElem h2] at h3
    simpa [nz] using h3

set_option maxRecDepth 100000 in
set_option maxHeartbeats 4000000 in
theorem solve_c (w : World) (a a2 a3 : Option Addr) (n cap n2 cap2 n3 cap3 : Nat) (M : Mask) (l y : List Int) (hn : M.length = n) (hn2 : l.length = n2) (hn3 : y.length = n3) (hm : n ≤ maxLen) (hm2 : n2 ≤ maxLen) (hm3 : n3 ≤ maxLen) (H : RowsAt w a M) (H2 : IntsAt w a2 l) (H3 : IntsAt w a3 y) :
    Calls Tryz.prog 262 #[.slice a n cap, .slice a2 n2 cap2, .slice a3 n3 cap3] w fun e w' => ∃ v base, e = .returned (.tuple #[v, .int .i64 (solveV M l y).2]) ∧ w.heap.size ≤ base ∧ RatsO w' base v (solveV M l y).1 ∧ Below w.heap.size w w' := by
  have hmf : ∀ (fn : Fn) (first cap : Array Value) (w : World), (Instr.makeFunc fn first cap).run Tryz.prog w = .ok (.func fn first cap) w := fun _ _ _ _ => rfl
  obtain ⟨s, hs⟩ : ∃ s, s = w.heap.size := ⟨_, rfl⟩
  obtain ⟨wf, hwf⟩ : ∃ wf, wf = w.alloc (.cells #[.slice a3 n3 cap3] 24) := ⟨_, rfl⟩
  have hb0 : Below w.heap.size w wf := by rw [hwf]; exact (Below.refl _ _).alloc (Nat.le_refl _) _
  have hcb : wf.cell? ⟨s, 0, none⟩ = some (.slice a3 n3 cap3) := by rw [hwf, hs, World.cell?_alloc_at _ _ _ _ rfl]; rfl
  have hsf : s < wf.heap.size := by rw [hwf, hs]; simp
  have HCK := hid (check_c wf a a3 a2 n cap n3 cap3 n2 cap2 M y l hn hn3 hn2 hm hm3 hm2 (H.below hb0) (H3.below hb0) (H2.below hb0))
  have HBF := hid hb0
  by_cases hck : checkE M y l = 0
  · rw [hck] at HCK
    have hv : solveV M l y = solveP (withY (colsF M l) y) n2 := by unfold solveV; rw [if_pos hck, hn2]
    rw [hv]
    obtain ⟨hok, hyl, hmil, hso⟩ := check_ok hck
    obtain ⟨hM, h1, h6, hc1, hc10⟩ := okM_ok hok
    have hl10 := set_le hso
    have hn6 : n ≤ 6 := by omega
    have hn1 : 1 ≤ n := by omega
    have hn210 : n2 ≤ 10 := by omega
    have hS : ∀ r ∈ M, ∀ j ∈ l, 0 ≤ j ∧ j < r.length := fun r hr j hj => by rw [hM.wid r hr]; exact hso.2 j hj
    have HCh := hid (fun (X : World) (hX : Below wf.heap.size wf X) =>
      have hX0 := chain hb0 hX
      chosen_c X a n cap M hn (by omega) (H.below hX0) a2 n2 cap2 l hn2 (by omega) (H2.below hX0) hS 265 #[.pointer (some ⟨s, 0, none⟩)] (enters_of Tryz.func265 (by kernel_rfl) rfl) (fun i => [y[i]?.getD 0])
        (solve1 X s a3 n3 cap3 n y hn3 (by omega) hm3 ((hX.cell (p := ⟨s, 0, none⟩) hsf).trans hcb) (Nat.lt_of_lt_of_le hsf hX.size) (H3.below hX0)) (fun i _ => ⟨by simp, by simp⟩))
    rw [chosenF_y (by omega)] at HCh
    have hMC : MaskOk (colsF M l) n2 := by rw [← hn2]; exact hM.cols l
    have hY := hMC.addY (y := y) (by rw [colsF_len]; omega) (Y := 1000000) (by omega) (mil_bnd6 hmil)
    have hCl : (withY (colsF M l) y).length = n := by rw [withY_len (by rw [colsF_len]; omega), colsF_len, hn]
    obtain ⟨C, hC⟩ : ∃ C, C = withY (colsF M l) y := ⟨_, rfl⟩
    rw [← hC] at HCh hY hCl ⊢
    have hle : ∀ t, t ≤ n2 → ∀ r ∈ (pRed C t).1, r.length = n2 + 1 ∧ BndL 1073741824 r := fun t ht r hr => by
      have h := pRed_le hY.wid hY.le6 hY.one hY.all ht r hr
      exact ⟨h.1, fun x hx => by have := h.2 x hx; omega⟩
    have HRd := hid (fun (W1 : World) (base : Nat) (v0 : Value) (hO : OwnT W1 base W1.heap.size v0 C) (hb : base ≤ W1.heap.size) => reduce_c W1 base v0 C (n2 + 1) hO hb hY.wid (by omega) (by omega) (by omega) n2 (by omega) hle)
    have hinv := pRed_inv C hY.wid n2 (fun j hj q => rowv_le (by decide) (fun r hr => hY.one r hr j hj) q)
    have hRl : (pRed C n2).1.length = n := by rw [pRed_len, hCl]
    have hRw : ∀ r ∈ (pRed C n2).1, r.length = n2 + 1 := fun r hr => (hle n2 (Nat.le_refl _) r hr).1
    have hRb : ∀ r ∈ (pRed C n2).1, BndL 1073741824 r := fun r hr => (hle n2 (Nat.le_refl _) r hr).2
    have hJn : (pRed C n2).2.length ≤ n := by have := hinv.K_le; omega
    have hJ2 : (pRed C n2).2.length ≤ n2 := by
      have := asc_le (a := 0) (b := n2) hinv.asc (fun x hx => ⟨Nat.zero_le _, hinv.lt x hx⟩)
      omega
    have hJlt : ∀ k, k < (pRed C n2).2.length → jf (pRed C n2).2 k < n2 := fun k hk => by
      unfold jf; rw [List.getElem?_eq_getElem hk]; exact hinv.lt _ (List.getElem_mem hk)
    have hJpos : ∀ k, k < (pRed C n2).2.length → 0 < vec ((pRed C n2).1[k]?.getD []) (jf (pRed C n2).2 k) := fun k hk => (hinv.pp k hk).2
    have HEND := hid (solve_end (C := C) (n := n2) hJ2)
    have HNO := hid (fun q => solve_none (C := C) (n := n2) (q := q))
    obtain ⟨SV, hSV⟩ : ∃ SV, SV = solveP C n2 := ⟨_, rfl⟩
    rw [← hSV] at HEND HNO ⊢
    obtain ⟨R, hR⟩ : ∃ R, R = (pRed C n2).1 := ⟨_, rfl⟩
    obtain ⟨J, hJ⟩ : ∃ R, R = (pRed C n2).2 := ⟨_, rfl⟩
    have e1 : (pRed C n2).1 = R := hR.symm
    have e2 : (pRed C n2).2 = J := hJ.symm
    rw [e1] at HRd hRl hRw hRb hJpos HEND HNO
    rw [e2] at HRd hJn hJ2 hJlt hJpos HEND HNO
    obtain ⟨K, hK⟩ : ∃ K, K = J.length := ⟨_, rfl⟩
    rw [← hK] at HRd hJn hJ2 hJlt hJpos HEND HNO
    have HKJ := hid hK
    have HRL := hid hRl
    have HRW := hid hRw
    have HRB := hid hRb
    have HJLT := hid hJlt
    have HJPOS := hid hJpos
    have HSS := hid hs
    clear e1 e2 hR hJ hK hRl hRw hRb hJlt hJpos hSV hinv hle hC hCl hY hMC hS hso hmil hyl hok hM h1 h6 hc1 hc10 hl10 hck hv hn hn2 hn3 H H2 H3 hb0
    go_enter Tryz.func262, Tryz.ntmps262
    go_wp2_with fail
    rw [← hwf, ← hs]
    clear hwf hs
    go_wp2_with (go_at_call 101; refine HCK.out.mono ?_; rintro e w1 ⟨rfl, hb1⟩; refine Stop.of ?_)
    refine Stop.go ?_
    go_wp2_with (go_at_call 220; refine (HCh.out w1 hb1).mono ?_; rintro e w2 ⟨v0, rfl, hO2, hb2⟩; refine Stop.of ?_)
    refine Stop.go ?_
    have HRd1 := hid (HRd.out w2 w1.heap.size v0 (OwnT.of hO2) hb2.size)
    clear hO2 HRd HCh
    go_wp2_with (go_at_call 195; refine HRd1.out.mono ?_; rintro e w3 ⟨vJ, rfl, hJo, hT3, hb3⟩; refine Stop.of ?_)
    refine Stop.go ?_
    rw [intsJ_vals] at hJo
    obtain ⟨ja, jc, rfl, hJI, hJm⟩ := ints_of_own hJo (by rw [intsJ_len, HKJ.out])
    have hv0 : ∃ g0 c0, v0 = .slice (some ⟨g0, 0, none⟩) n c0 := by
      obtain ⟨g0, c0, _, _, e, _⟩ := hT3.at 0 (by rw [HRL.out]; omega)
      exact ⟨g0, c0, by rw [e, HRL.out]⟩
    obtain ⟨g0, c0, rfl⟩ := hv0
    have hRA := hT3.rowsAt HRL.out (fun r hr => by rw [HRW.out r hr]; unfold maxLen; omega)
    have HJI := hid hJI
    have HRA := hid hRA
    have HBW := hid (show Below w.heap.size w w3 from chain HBF.out (hb1.trans ((hb2.trans hb3).mono hb1.size)))
    have hsz : s ≤ w3.heap.size := by rw [HSS.out]; exact HBW.out.size
    clear hJI hRA hJo hT3 hb1 hb2 hb3 HRd1 HCK HBF hcb hsf
    go_wp2
    go_loopw [12, 33] (fun v i wr => ∃ k : Nat, k ≤ n ∧ i = .int .i64 k ∧ SolveSt wr w3.heap.size v R J n2 k ∧ Below w3.heap.size w3 wr) (fun _ i _ => n - (intOf i).toNat)
    case atStart => exact ⟨0, Nat.zero_le _, rfl, ⟨by rw [Nat.zero_min]; exact RatsO.nil _ _, fun q _ h => by omega⟩, Below.refl _ _⟩
    case round =>
      obtain ⟨k, hk, rfl, hst, hbk⟩ := hrel
      by_cases hlt : k < n
      · obtain ⟨b, off, ra, rn, rc, e, hbs, hc, hrn, hrm, hri⟩ := HRA.out k (by rw [HRL.out]; exact hlt)
        cases e
        rw [Nat.zero_add] at hc
        have hrw : rn = n2 + 1 := by rw [← hrn]; exact HRW.out _ (List.getElem_mem _)
        have hcw : wr.cell? ⟨g0, k, none⟩ = some (.slice ra rn rc) := (hbk.cell (p := ⟨g0, k, none⟩) hbs).trans hc
        clear hc
        obtain ⟨b', off', rfl, hbs', hcx⟩ := hri n2 (by omega)
        have hkR : k < R.length := by rw [HRL.out]; exact hlt
        have hvx : ∀ c, (R[k])[c]?.getD 0 = vec (R[k]?.getD []) c := fun c => by rw [List.getElem?_eq_getElem hkR]; rfl
        rw [hvx] at hcx
        have hnx : (n2 : Int) < (rn : Int) := by omega
        by_cases hkK : k < K
        · obtain ⟨p, hp⟩ : ∃ p, p = jf J k := ⟨_, rfl⟩
          have hp2 : p < n2 := by rw [hp]; exact HJLT.out k hkK
          obtain ⟨jb, jo, rfl, hjs, hcj⟩ := HJI.out k (by rw [intsJ_len, ← HKJ.out]; exact hkK)
          have hjv : (intsJ J)[k]?.getD 0 = (p : Int) := by
            have hkl : k < J.length := by rw [← HKJ.out]; exact hkK
            unfold intsJ; rw [hp]; unfold jf; simp [hkl]
          rw [hjv] at hcj
          obtain ⟨b2, off2, e2, _, hcz⟩ := hri p (by omega)
          cases e2
          rw [hvx] at hcz
          have hzp : 0 < vec (R[k]?.getD []) p := by rw [hp]; exact HJPOS.out k hkK
          have hbx := vec_mem (P := fun x => -((1073741824 : Nat) : Int) ≤ x ∧ x ≤ ((1073741824 : Nat) : Int)) (by omega) (HRB.out _ (List.getElem_mem hkR))
          have hbx1 := hbx n2
          have hbx2 := hbx p
          have hRk : R[k]?.getD [] = R[k] := by rw [List.getElem?_eq_getElem hkR]; rfl
          rw [← hRk] at hbx1 hbx2
          have hsnoc : ofTo R J n2 (k + 1) = ofTo R J n2 k ++ [ofF (vec (R[k]?.getD []) n2) (vec (R[k]?.getD []) p)] := by rw [hp]; exact ofTo_succ R J n2 k
          have HOf := hid (fun (X : World) => of_c X (vec (R[k]?.getD []) n2) (vec (R[k]?.getD []) p) (by omega) (by omega) (by omega))
          obtain ⟨x, hx⟩ : ∃ x, x = vec (R[k]?.getD []) n2 := ⟨_, rfl⟩
          obtain ⟨z, hz⟩ : ∃ x, x = vec (R[k]?.getD []) p := ⟨_, rfl⟩
          rw [← hx] at hcx HOf hsnoc
          rw [← hz] at hcz HOf hsnoc
          obtain ⟨Q, hQ⟩ : ∃ Q, Q = ofF x z := ⟨_, rfl⟩
          rw [← hQ] at HOf hsnoc
          obtain ⟨q1, q2⟩ := Q
          have HSN := hid hsnoc
          obtain ⟨hst1, hst2⟩ := hst
          rw [← HKJ.out, show min k K = k by omega] at hst1
          have HST2 := hid (show ∀ q, J.length ≤ q → q < k + 1 → vec (R[q]?.getD []) n2 = 0 from fun q h1 h2 => by have := HKJ.out; omega)
          obtain ⟨T, hT⟩ : ∃ T, T = ofTo R J n2 k := ⟨_, rfl⟩
          rw [← hT] at hst1 hsnoc
          have hTl : T.length = k := by rw [hT]; exact ofTo_len R J n2 k
          have HO := hid hst1
          unfold RatsO at hst1
          rw [hTl] at hst1
          have HO1 := hid hst1
          obtain ⟨va, vc, rfl⟩ := ownsRow_slice hst1
          have HSN2 := hid (show ratVals (ofTo R J n2 (k + 1)) = ratVals T ++ ratCells (q1, q2) by rw [hsnoc, ratVals_snoc])
          have HS := hid (fun (X : World) (hX : Below w3.heap.size w3 X) => show X.cell? ⟨b', off' + n2, none⟩ = some (.int .i64 x) ∧ X.cell? ⟨jb, jo + k, none⟩ = some (.int .i64 p) ∧ X.cell? ⟨b', off' + p, none⟩ = some (.int .i64 z) from
            ⟨(hX.cell (p := ⟨b', off' + n2, none⟩) hbs').trans hcx, (hX.cell (p := ⟨jb, jo + k, none⟩) hjs).trans hcj, (hX.cell (p := ⟨b', off' + p, none⟩) hbs').trans hcz⟩)
          have M1 := hid (show k + 1 ≤ maxLen by unfold maxLen; omega)
          have M2 := hid (show (k + 1) * 16 ≤ 140737488355328 by omega)
          have HBK := hid hbk
          have i1 : (k : Int) < (K : Int) := by omega
          have i2 : (p : Int) < (rn : Int) := by omega
          clear hst1 hst2 hcx hcj hcz hsnoc hx hz hQ hT hTl hRk hbx hbx1 hbx2 hzp hvx hri hrn hrw hjv hp hbk HO HSN
          simp only [ratV] at HOf
          go_wp2
          refine plain_region (fun j' X => wAll j' = true → X.cell? ⟨b', off' + n2, none⟩ = some (.int .i64 x) ∧ X.cell? ⟨jb, jo + k, none⟩ = some (.int .i64 p) ∧ X.cell? ⟨b', off' + p, none⟩ = some (.int .i64 z)) (by kernel_rfl) ?_
          have hbd : Below w3.heap.size w3 wr.drew := HBK.out.drew
          have HO2 := hid (own_below HO1.out ((Below.refl _ wr).drew))
          have HB3 := hid hbd
          generalize wr.drew = wd at hbd HO2 HB3 ⊢
          refine AnyT.takeD (i := 0) (v := .slice va k vc) rfl rfl (by kernel_rfl) (by kernel_rfl) (by kernel_rfl) (by first | exact (fun _ _ _ h => h) | exact (fun _ _ _ h => absurd h.1 (by simp))) (by kernel_rfl) (by rfl) (by rintro w' ⟨y1, y2, y3⟩; go_simp) (HS.out _ hbd) ?_; go_frame
          refine AnyT.takeD (i := 1) (v := .slice (some ⟨b', off', none⟩) rn rc) rfl rfl (by kernel_rfl) (by kernel_rfl) (by kernel_rfl) (by first | exact (fun _ _ _ h => h) | exact (fun _ _ _ h => absurd h.1 (by simp))) (by kernel_rfl) (by rfl) (by rintro w' ⟨y1, y2, y3⟩; go_simp) (HS.out _ hbd) ?_; go_frame
          refine AnyT.takeD (i := 2) (v := .int .i64 n2) rfl rfl (by kernel_rfl) (by kernel_rfl) (by kernel_rfl) (by first | exact (fun _ _ _ h => h) | exact (fun _ _ _ h => absurd h.1 (by simp))) (by kernel_rfl) (by rfl) (by rintro w' ⟨y1, y2, y3⟩; go_simp) (HS.out _ hbd) ?_; go_frame
          refine AnyT.takeD (i := 3) (v := .pointer (some ⟨b', off' + n2, none⟩)) rfl rfl (by kernel_rfl) (by kernel_rfl) (by kernel_rfl) (by first | exact (fun _ _ _ h => h) | exact (fun _ _ _ h => absurd h.1 (by simp))) (by kernel_rfl) (by rfl) (by rintro w' ⟨y1, y2, y3⟩; go_simp) (HS.out _ hbd) ?_; go_frame
          refine AnyT.takeD (i := 4) (v := .int .i64 x) rfl rfl (by kernel_rfl) (by kernel_rfl) (by kernel_rfl) (by first | exact (fun _ _ _ h => h) | exact (fun _ _ _ h => absurd h.1 (by simp))) (by kernel_rfl) (by rfl) (by rintro w' ⟨y1, y2, y3⟩; go_simp) (HS.out _ hbd) ?_; go_frame
          refine AnyT.takeD (i := 5) (v := .slice (some ⟨b', off', none⟩) rn rc) rfl rfl (by kernel_rfl) (by kernel_rfl) (by kernel_rfl) (by first | exact (fun _ _ _ h => h) | exact (fun _ _ _ h => absurd h.1 (by simp))) (by kernel_rfl) (by rfl) (by rintro w' ⟨y1, y2, y3⟩; go_simp) (HS.out _ hbd) ?_; go_frame
          refine AnyT.takeD (i := 6) (v := .slice (some ⟨jb, jo, none⟩) K jc) rfl rfl (by kernel_rfl) (by kernel_rfl) (by kernel_rfl) (by first | exact (fun _ _ _ h => h) | exact (fun _ _ _ h => absurd h.1 (by simp))) (by kernel_rfl) (by rfl) (by rintro w' ⟨y1, y2, y3⟩; go_simp) (HS.out _ hbd) ?_; go_frame
          refine AnyT.takeD (i := 7) (v := .int .i64 k) rfl rfl (by kernel_rfl) (by kernel_rfl) (by kernel_rfl) (by first | exact (fun _ _ _ h => h) | exact (fun _ _ _ h => absurd h.1 (by simp))) (by kernel_rfl) (by rfl) (by rintro w' ⟨y1, y2, y3⟩; go_simp) (HS.out _ hbd) ?_; go_frame
          refine AnyT.takeD (i := 8) (v := .pointer (some ⟨jb, jo + k, none⟩)) rfl rfl (by kernel_rfl) (by kernel_rfl) (by kernel_rfl) (by first | exact (fun _ _ _ h => h) | exact (fun _ _ _ h => absurd h.1 (by simp))) (by kernel_rfl) (by rfl) (by rintro w' ⟨y1, y2, y3⟩; go_simp) (HS.out _ hbd) ?_; go_frame
          refine AnyT.takeD (i := 9) (v := .int .i64 p) rfl rfl (by kernel_rfl) (by kernel_rfl) (by kernel_rfl) (by first | exact (fun _ _ _ h => h) | exact (fun _ _ _ h => absurd h.1 (by simp))) (by kernel_rfl) (by rfl) (by rintro w' ⟨y1, y2, y3⟩; go_simp) (HS.out _ hbd) ?_; go_frame
          refine AnyT.takeD (i := 10) (v := .pointer (some ⟨b', off' + p, none⟩)) rfl rfl (by kernel_rfl) (by kernel_rfl) (by kernel_rfl) (by first | exact (fun _ _ _ h => h) | exact (fun _ _ _ h => absurd h.1 (by simp))) (by kernel_rfl) (by rfl) (by rintro w' ⟨y1, y2, y3⟩; go_simp) (HS.out _ hbd) ?_; go_frame
          refine AnyT.takeD (i := 11) (v := .int .i64 z) rfl rfl (by kernel_rfl) (by kernel_rfl) (by kernel_rfl) (by first | exact (fun _ _ _ h => h) | exact (fun _ _ _ h => absurd h.1 (by simp))) (by kernel_rfl) (by rfl) (by rintro w' ⟨y1, y2, y3⟩; go_simp) (HS.out _ hbd) ?_; go_frame
          refine AnyT.next (i := 12) (by kernel_rfl) rfl (wpOp_of_list rfl ?_)
          go_wp2_with (go_at_call 152; refine (HOf.out _).mono ?_; rintro e w4 ⟨rfl, hbl4⟩; refine Stop.of ?_)
          refine Stop.go ?_
          have HB4 := hid (chain hbd hbl4)
          have HO4 := hid (own_below HO2.out hbl4)
          have M3 := hid (Nat.le_trans HB4.out.size (le_alloc w4 (.cells (ratCells (q1, q2)).toArray 29)))
          clear hbd hbl4
          go_wp2
          refine ⟨fun _ => HS.out _ HB4.out, ?_⟩
          refine AnyT.next (i := 13) (by kernel_rfl) rfl (wpOp_of_list rfl ?_)
          go_wp2
          have hbA : Below w3.heap.size w3 (w4.alloc (.cells (ratCells (q1, q2)).toArray 29)) := HB4.out.alloc HB4.out.size _
          refine ⟨fun _ => HS.out _ hbA, ?_⟩
          refine AnyT.next (i := 14) (by kernel_rfl) rfl (wpOp_of_list rfl ?_)
          refine wpList_app _ rfl (.tmp 43) (.tmp 56) 42 rfl w3.heap.size 29 (.agg #[.int .i64 0, .int .i64 0]) 2 16 Tryz.underlying42 info_ratio rfl (by decide) (.slice va k vc) k _ rfl (HO4.out.alloc _) (some ⟨w4.heap.size, 0, none⟩) 1 1 (ratCells (q1, q2)) rfl rfl no_none (rat_news w4 (q1, q2) _) (rat_one _) M1.out M2.out M3.out ?_
          intro a5 c5 w5 own5 g5
          have hb5 : Below w3.heap.size w3 w5 := hbA.grown g5 M3.out (fun q hq => (HO4.out.lt q hq).1)
          refine ⟨fun _ => HS.out _ hb5, ?_⟩
          refine AnyT.takeD (i := 15) (v := .slice a5 (k + 1) c5) rfl rfl (by kernel_rfl) (by kernel_rfl) (by kernel_rfl) (by first | exact (fun _ _ _ h => h) | exact (fun _ _ _ h => absurd h.1 (by simp))) (by kernel_rfl) (by rfl) (by rintro w' ⟨y1, y2, y3⟩; go_simp) (HS.out _ hb5) ?_; go_frame
          refine AnyT.done (by kernel_rfl) ?_ _
          go_wp2
          refine ⟨⟨k + 1, by omega, by go_num, ⟨?_, HST2.out⟩, hb5⟩, by simp [intOf]; omega⟩
          rw [← HKJ.out, show min (k + 1) K = k + 1 by omega]
          unfold RatsO
          rw [ofTo_len, HSN2.out]
          exact own5
        · have HX8 := hid (fun (h : vec (R[k]?.getD []) n2 ≠ 0) => HNO.out k (by omega) (by rw [HRL.out]; exact hlt) h)
          have HX0 := hid (fun (h : vec (R[k]?.getD []) n2 = 0) => show SolveSt wr w3.heap.size u12 R J n2 (k + 1) from ⟨by have h1 := hst.1; rw [← HKJ.out, show min k K = min (k + 1) K by omega] at h1; rw [← HKJ.out]; exact h1, fun q h1 h2 => by
            rcases Nat.lt_or_ge q k with h3 | h3
            · exact hst.2 q h1 h3
            · obtain rfl : q = k := by omega
              exact h⟩)
          obtain ⟨x, hx⟩ : ∃ x, x = vec (R[k]?.getD []) n2 := ⟨_, rfl⟩
          rw [← hx] at hcx HX8 HX0
          have i1 : ¬ ((k : Int) < (K : Int)) := by omega
          have HBK := hid hbk
          have hcx' : wr.cell? ⟨b', off' + n2, none⟩ = some (.int .i64 x) := (hbk.cell (p := ⟨b', off' + n2, none⟩) hbs').trans hcx
          clear hx hst hbk hcx hvx hri hrn hrw
          by_cases h0 : x = 0
          · subst h0
            have HX := hid (HX0.out rfl)
            clear HX0 HX8
            go_wp2
            exact ⟨⟨k + 1, by omega, by go_num, HX.out, HBK.out⟩, by simp [intOf]; omega⟩
          · have hxb : (x != 0) = true := by simpa using h0
            obtain rfl : SV = ([], 8) := HX8.out h0
            clear HX0 HX8
            go_wp2
            go_ret2
            exact ⟨.slice none 0 0, rfl, w.heap.size, Nat.le_refl _, RatsO.nil _ _, chain HBW.out HBK.out⟩
      · obtain rfl : k = n := by omega
        have hSV : SV = if K < n2 then ([], 11) else (ofTo R J n2 K, 0) := HEND.out fun q h1 h2 => hst.2 q (by rw [← HKJ.out]; exact h1) (by rw [HRL.out] at h2; exact h2)
        have hst1 := hst.1
        rw [← HKJ.out, show min k K = K by omega] at hst1
        have HO := hid hst1
        have HBK := hid hbk
        obtain ⟨va, vc, hve⟩ := ownsRow_slice hst1
        rw [ofTo_len] at hve
        subst hve
        clear hst1 hst hbk
        by_cases hKn : K < n2
        · rw [if_pos hKn] at hSV
          subst hSV
          have i2 : (K : Int) < (n2 : Int) := by omega
          go_wp2
          go_ret2
          exact ⟨.slice none 0 0, rfl, w.heap.size, Nat.le_refl _, RatsO.nil _ _, chain HBW.out HBK.out⟩
        · rw [if_neg hKn] at hSV
          subst hSV
          have i2 : ¬ ((K : Int) < (n2 : Int)) := by omega
          go_wp2
          go_ret2
          exact ⟨_, rfl, w3.heap.size, HBW.out.size, HO.out, chain HBW.out HBK.out⟩
  · have hv : solveV M l y = ([], checkE M y l) := by unfold solveV; rw [if_neg hck]
    rw [hv]
    obtain ⟨E, hE⟩ : ∃ E, E = checkE M y l := ⟨_, rfl⟩
    rw [← hE] at HCK hck ⊢
    have hpb : (E != 0) = true := by simpa using hck
    have HSS := hid hs
    clear hn hn2 hn3 H H2 H3 hv hE hb0
    go_enter Tryz.func262, Tryz.ntmps262
    go_wp2_with fail
    rw [← hwf, ← hs]
    clear hwf hs
    go_wp2_with (go_at_call 101; refine HCK.out.mono ?_; rintro e w1 ⟨rfl, hb1⟩)
    go_ret2
    exact ⟨.slice none 0 0, w.heap.size, rfl, Nat.le_refl _, RatsO.nil _ _, chain HBF.out hb1⟩
end
end Go.Proofs.YtlffndehhhpgjaaGreat

namespace Go.Proofs.YtlffndehhhpgjaaGreat
section
set_option linter.unusedVariables false
set_option linter.unusedSimpArgs false

theorem ratioF_eq {a b c d : Int} (hb : 0 < b) (hd : 0 < d) (h : a * d = c * b) : ratioF a b = ratioF c d := by
  have g1 : 0 < Int.gcd a b := Nat.pos_of_ne_zero fun e => by have := (Int.gcd_eq_zero_iff.1 e).2; omega
  have g2 : 0 < Int.gcd c d := Nat.pos_of_ne_zero fun e => by have := (Int.gcd_eq_zero_iff.1 e).2; omega
  have k1 : Int.gcd (a * d) (b * d) = Int.gcd a b * d.natAbs := Int.gcd_mul_right _ _ _
  have k2 : Int.gcd (c * b) (d * b) = Int.gcd c d * b.natAbs := Int.gcd_mul_right _ _ _
  rw [h, Int.mul_comm b d, k2] at k1
  obtain ⟨a1, ha⟩ := Int.gcd_dvd_left a b
  obtain ⟨b1, hb1⟩ := Int.gcd_dvd_right a b
  obtain ⟨c1, hc⟩ := Int.gcd_dvd_left c d
  obtain ⟨d1, hd1⟩ := Int.gcd_dvd_right c d
  unfold ratioF
  obtain ⟨G, hG⟩ : ∃ G : Int, G = ((Int.gcd a b : Nat) : Int) := ⟨_, rfl⟩
  obtain ⟨H, hH⟩ : ∃ G : Int, G = ((Int.gcd c d : Nat) : Int) := ⟨_, rfl⟩
  have k3 : H * b = G * d := by
    have := congrArg (fun n : Nat => (n : Int)) k1
    simp only [Int.natCast_mul] at this
    rw [← hG, ← hH] at this
    rw [show ((b.natAbs : Nat) : Int) = b by omega, show ((d.natAbs : Nat) : Int) = d by omega] at this
    exact this
  rw [← hG] at ha hb1 ⊢
  rw [← hH] at hc hd1 ⊢
  have hG0 : G ≠ 0 := by omega
  have hH0 : H ≠ 0 := by omega
  have e1 : b1 = d1 := by
    rw [hb1, hd1] at k3
    have : (H * G) * b1 = (H * G) * d1 := by grind
    exact Int.eq_of_mul_eq_mul_left (Int.mul_ne_zero hH0 hG0) this
  have hb10 : b1 ≠ 0 := fun e => by rw [e] at hb1; omega
  have e2 : a1 = c1 := by
    rw [ha, hd1, hc, hb1, ← e1] at h
    have : (G * H * b1) * a1 = (G * H * b1) * c1 := by grind
    exact Int.eq_of_mul_eq_mul_left (Int.mul_ne_zero (Int.mul_ne_zero hG0 hH0) hb10) this
  rw [Int.tdiv_eq_of_eq_mul_left hG0 (c := a1) (by rw [ha]; exact Int.mul_comm _ _), Int.tdiv_eq_of_eq_mul_left hG0 (c := b1) (by rw [hb1]; exact Int.mul_comm _ _),
    Int.tdiv_eq_of_eq_mul_left hH0 (c := c1) (by rw [hc]; exact Int.mul_comm _ _), Int.tdiv_eq_of_eq_mul_left hH0 (c := d1) (by rw [hd1]; exact Int.mul_comm _ _), e1, e2]

end

section
section
open Go.RowKit
set_option linter.unusedVariables false
set_option linter.unusedSimpArgs false

def SeenAt (w : World) (g0 : Nat) (M : Mask) (W : Nat) : Prop :=
  ∀ i, i < M.length → ∃ gi x, w.cell? ⟨g0, i, none⟩ = some (.slice (some ⟨gi, 0, none⟩) (W + M.length) (W + M.length + x)) ∧ g0 < w.heap.size ∧ gi < w.heap.size ∧ IntsAt w (some ⟨gi, 0, none⟩) ((RE M W)[i]?.getD []) ∧ ((RE M W)[i]?.getD []).length = W + M.length
theorem SeenAt.below {w w' : World} {g0 : Nat} {M : Mask} {W : Nat} (h : SeenAt w g0 M W) (hb : Below w.heap.size w w') : SeenAt w' g0 M W := by
  intro i hi
  obtain ⟨gi, x, h1, h2, h3, h4, h5⟩ := h i hi
  exact ⟨gi, x, (hb.cell (p := ⟨g0, i, none⟩) h2).trans h1, Nat.lt_of_lt_of_le h2 hb.size, Nat.lt_of_lt_of_le h3 hb.size, h4.below hb, h5⟩

end

section
open Go.RowKit
set_option linter.unusedVariables false
set_option linter.unusedSimpArgs false

end

section
open Go.RowKit
set_option linter.unusedVariables false
set_option linter.unusedSimpArgs false

end

section
open Go.RowKit
set_option linter.unusedVariables false
set_option linter.unusedSimpArgs false

theorem clone_c (w : World) (a : Option Addr) (n cap : Nat) (l : List Int) (hn : l.length = n) (hm : n * 8 ≤ 140737488355328) (H : IntsAt w a l) :
    Calls Tryz.prog 231 #[.slice a n cap] w fun e w' => ∃ v, e = .returned v ∧ w'.ownsRow w.heap.size 3 1 v n (l.map (Value.int .i64)) ∧ Below w.heap.size w w' := by
  obtain ⟨i0, hi, hz0, hz1, hz2⟩ := info_parts li_int
  have heq := fun (w : World) (a : Option Addr) (n c : Nat) => Lib.run_eql_slice_nil (P := Tryz.prog) w 24 3 a n c 0 0 Tryz.underlying24
  cases a with
  | none =>
    have h0 : n = 0 := by
      rcases Nat.eq_zero_or_pos n with h | h
      · exact h
      · obtain ⟨_, _, e, _⟩ := H 0 (by omega); cases e
    subst h0
    have hl : l = [] := List.eq_nil_of_length_eq_zero hn
    subst hl
    clear hn H hm
    go_enter Tryz.func231, Tryz.ntmps231
    go_wp2
    go_ret
    exact ⟨_, rfl, World.ownsRow_nil _ _ _ _, Below.refl _ _⟩
  | some ad =>
    have HN := hid hn
    have hnews : ∀ j u, (l.map (Value.int .i64))[j]? = some u → (w.alloc (.cells #[] 3)).cell? (ad.add j) = some u := by
      intro j u hu
      rw [List.getElem?_map] at hu
      obtain ⟨x, hx, rfl⟩ := Option.map_eq_some_iff.1 hu
      obtain ⟨hjl, e⟩ := List.getElem?_eq_some_iff.1 hx
      obtain ⟨b, off, ea, hb, hc⟩ := H j hjl
      cases ea
      rw [Addr.add_lit]
      refine (((Below.refl _ w).alloc (Nat.le_refl _) (.cells #[] 3)).cell (p := ⟨b, off + j, none⟩) hb).trans ?_
      rw [hc, hx]; rfl
    have HNews := hid hnews
    clear hnews H hn
    go_enter Tryz.func231, Tryz.ntmps231
    go_wp2_with (at_builtin; refine wpList_append_own _ rfl _ _ 24 rfl w.heap.size 3 i0 (.int .i64 0) 1 8 Tryz.underlying24 hi hz0 hz1 hz2 rfl (by decide) _ 0 [] rfl (World.ownsRow_made _ _ 0 (Nat.le_refl _) (by unfold maxLen; omega) rfl) ad n cap (l.map (Value.int .i64)) rfl (by rw [List.length_map, HN.out]; omega) HNews.out (ints_one _) (by unfold maxLen; omega) (by omega) (by simp) ?_; intro v' w1 hown' hgrow _)
    go_ret
    refine ⟨_, rfl, by simpa using hown', ((Below.refl _ w).alloc (Nat.le_refl _) _).grown hgrow (by simp) (fun k hk => by cases hk; exact Nat.le_refl _)⟩

end

section
open Go.RowKit
set_option linter.unusedVariables false
set_option linter.unusedSimpArgs false

end

section
open Go.RowKit
set_option linter.unusedVariables false
set_option linter.unusedSimpArgs false

end
end
end Go.Proofs.YtlffndehhhpgjaaGreat

namespace Go.Proofs.YtlffndehhhpgjaaGreat
section
section
set_option linter.unusedVariables false
set_option linter.unusedSimpArgs false

end

section
open Go.RowKit
set_option linter.unusedVariables false
set_option linter.unusedSimpArgs false

def OwnR (W : World) (base : Nat) (u : Value) (l : List Int) : Prop := W.ownsRow base 3 1 u l.length (l.map (Value.int .i64))
theorem OwnR.type {W : World} {base k : Nat} {u : Value} {l : List Int} (h : OwnR W base u l) (hk : u.ownBlock = some k) : base ≤ k ∧ k < W.heap.size ∧ ∃ c, W.heap[k]? = some (.cells c 3 (0, 0)) := by
  rcases h.2 with ⟨rfl, _⟩ | ⟨g, cap, cur, rfl, hbg, hgg, _⟩
  · simp [Value.ownBlock] at hk
  · obtain rfl : g = k := by simpa [Value.ownBlock] using hk
    exact ⟨hbg, (Array.getElem?_eq_some_iff.1 hgg).1, cur, hgg⟩
theorem OwnR.moved {W W' : World} {base : Nat} {u : Value} {l : List Int} (h : OwnR W base u l) (hm : ∀ k, u.ownBlock = some k → W'.heap[k]? = W.heap[k]?) : OwnR W' base u l := by
  refine ⟨h.1, ?_⟩
  rcases h.2 with hn | ⟨g, cap, cur, rfl, hbg, hgg, rest⟩
  · exact .inl hn
  · exact .inr ⟨g, cap, cur, rfl, hbg, (hm g rfl).trans hgg, rest⟩
theorem OwnR.low {W : World} {base b0 : Nat} {u : Value} {l : List Int} (h : OwnR W base u l) (hb : b0 ≤ base) : OwnR W b0 u l := by
  refine ⟨h.1, ?_⟩
  rcases h.2 with hn | ⟨g, cap, cur, rfl, hbg, rest⟩
  · exact .inl hn
  · exact .inr ⟨g, cap, cur, rfl, by omega, rest⟩
theorem OwnR.below {W W' : World} {base : Nat} {u : Value} {l : List Int} (h : OwnR W base u l) (hb : Below W.heap.size W W') : OwnR W' base u l := h.moved fun k hk => hb.block k (h.type hk).2.1
def TabD (W : World) (base : Nat) (v : Value) (L : List (List Int)) : Prop :=
  ∃ vs, W.ownsRow base 24 1 v L.length vs ∧ (∀ j (hj : j < L.length), ∃ u, vs[j]? = some u ∧ OwnR W base u L[j]) ∧
    ∀ (i j : Nat) (u u' : Value) (k : Nat), vs[i]? = some u → vs[j]? = some u' → u.ownBlock = some k → u'.ownBlock = some k → i = j
theorem TabD.nil (W : World) (base : Nat) : TabD W base (.slice none 0 0) [] := ⟨[], World.ownsRow_nil _ _ _ _, fun j hj => by simp at hj, fun i j u u' k h => by simp at h⟩
theorem TabD.below {W W' : World} {base : Nat} {v : Value} {L : List (List Int)} (h : TabD W base v L) (hb : Below W.heap.size W W') : TabD W' base v L := by
  obtain ⟨vs, h1, h2, h3⟩ := h
  refine ⟨vs, own_below h1 hb, fun j hj => ?_, h3⟩
  obtain ⟨u, hu, hr⟩ := h2 j hj
  exact ⟨u, hu, hr.below hb⟩
theorem own_typeL {W : World} {base k n : Nat} {v : Value} {vs : List Value} (h : W.ownsRow base 24 1 v n vs) (hk : v.ownBlock = some k) : base ≤ k ∧ k < W.heap.size ∧ ∃ c, W.heap[k]? = some (.cells c 24 (0, 0)) := by
  rcases h.2 with ⟨rfl, _⟩ | ⟨g, cap, cur, rfl, hbg, hgg, _⟩
  · simp [Value.ownBlock] at hk
  · obtain rfl : g = k := by simpa [Value.ownBlock] using hk
    exact ⟨hbg, (Array.getElem?_eq_some_iff.1 hgg).1, cur, hgg⟩
theorem TabD.snoc {W w1 w3 : World} {base : Nat} {v v' u : Value} {L : List (List Int)} {r : List Int} {vs : List Value} (h1 : W.ownsRow base 24 1 v L.length vs)
    (h2 : ∀ j (hj : j < L.length), ∃ u, vs[j]? = some u ∧ OwnR W base u L[j]) (h3 : ∀ (i j : Nat) (u u' : Value) (k : Nat), vs[i]? = some u → vs[j]? = some u' → u.ownBlock = some k → u'.ownBlock = some k → i = j)
    (hb : Below W.heap.size W w1) (hbase : base ≤ W.heap.size) (hr : OwnR w1 W.heap.size u r) (hg : w1.grownBy w3 v.ownBlock)
    (ho' : w3.ownsRow base 24 1 v' (L.length + 1) (vs ++ [u])) : TabD w3 base v' (L ++ [r]) := by
  have hlen : vs.length = L.length := by have := h1.1; omega
  have hup : ∀ b u l, OwnR w1 b u l → OwnR w3 b u l := by
    intro b u l hu
    refine hu.moved fun k hk => ?_
    obtain ⟨_, hlt, c, hc⟩ := hu.type hk
    refine hg.block k hlt ?_
    intro e
    obtain ⟨_, h4, c2, hc2⟩ := own_typeL h1 e.symm
    have := (hb.block k h4).trans hc2
    rw [hc] at this; cases this
  have hold : ∀ j q k, j < L.length → vs[j]? = some q → q.ownBlock = some k → k < W.heap.size := by
    intro j q k hj hq hk
    obtain ⟨u', hu', hr'⟩ := h2 j hj
    rw [hq] at hu'; cases hu'
    exact (hr'.type hk).2.1
  refine ⟨vs ++ [u], by simpa using ho', fun j hj => ?_, ?_⟩
  · simp only [List.length_append, List.length_cons, List.length_nil, Nat.zero_add] at hj
    by_cases hjl : j < L.length
    · obtain ⟨u', hu', hr'⟩ := h2 j hjl
      rw [List.getElem_append_left hjl]
      exact ⟨u', by rw [List.getElem?_append_left (by omega)]; exact hu', hup _ _ _ (hr'.below hb)⟩
    · obtain rfl : j = L.length := by omega
      rw [List.getElem_append_right (Nat.le_refl _)]
      simp only [Nat.sub_self, List.getElem_cons_zero]
      exact ⟨u, by rw [List.getElem?_append_right (by omega), hlen]; simp, hup _ _ _ (hr.low hbase)⟩
  · intro i j q q' k hi hj hk hk'
    have hin : ∀ {i : Nat} {q : Value}, (vs ++ [u])[i]? = some q → (i < L.length ∧ vs[i]? = some q) ∨ (i = L.length ∧ q = u) := by
      intro i q h
      rcases Nat.lt_or_ge i L.length with h4 | h4
      · rw [List.getElem?_append_left (by omega)] at h; exact .inl ⟨h4, h⟩
      · rw [List.getElem?_append_right (by omega), hlen] at h
        rcases Nat.eq_or_lt_of_le h4 with h5 | h5
        · rw [← h5, Nat.sub_self] at h; exact .inr ⟨h5.symm, by simpa using h.symm⟩
        · rw [List.getElem?_eq_none (by simp; omega)] at h; cases h
    rcases hin hi with ⟨h4, h5⟩ | ⟨h4, rfl⟩ <;> rcases hin hj with ⟨h6, h7⟩ | ⟨h6, h8⟩
    · exact h3 i j q q' k h5 h7 hk hk'
    · subst h8
      have := hold i q k h4 h5 hk
      have := (hr.type hk').1
      omega
    · have := hold j q' k h6 h7 hk'
      have := (hr.type hk).1
      omega
    · omega
theorem TabD.at {W : World} {base n : Nat} {v : Value} {L : List (List Int)} (h : TabD W base v L) (hl : L.length = n) {i : Nat} (hi : i < n) :
    ∃ g0 cap u, v = .slice (some ⟨g0, 0, none⟩) n cap ∧ base ≤ g0 ∧ g0 < W.heap.size ∧ W.cell? ⟨g0, i, none⟩ = some u ∧ OwnR W base u (L[i]?.getD []) ∧ W.frozen? ⟨g0, i, none⟩ = false ∧ (∀ k, u.ownBlock = some k → k ≠ g0) ∧
      ∀ w1 w3 u' r, Below W.heap.size W w1 → w1.grownBy w3 u.ownBlock → OwnR w3 base u' r → (u'.ownBlock = u.ownBlock ∨ u'.ownBlock = some w1.heap.size) → TabD (w3.setCell ⟨g0, i, none⟩ u') base v (L.set i r) := by
  subst hl
  obtain ⟨vs, h1, h2, h3⟩ := h
  obtain ⟨u, hu, hr⟩ := h2 i hi
  rcases h1.2 with ⟨rfl, h0⟩ | ⟨g0, cap, cur, rfl, hbg, hgg, hnc, hcm, hsz, htk⟩
  · omega
  have hcell := World.ownsRow.cellAt (w := W) (base := base) (e := 24) (size := 1) (g := g0) (n := L.length) (cap := cap) (xs := vs) h1 i (by omega)
  have hvl : vs.length = L.length := by have := h1.1; omega
  have hg0 : g0 < W.heap.size := (Array.getElem?_eq_some_iff.1 hgg).1
  have hne : ∀ (j : Nat) (q : Value) (k : Nat), j < L.length → vs[j]? = some q → q.ownBlock = some k → k < W.heap.size ∧ k ≠ g0 := by
    intro j q k hj hq hk
    obtain ⟨u', hu', hr'⟩ := h2 j hj
    rw [hq] at hu'; cases hu'
    obtain ⟨_, h4, c, hc⟩ := hr'.type hk
    refine ⟨h4, ?_⟩
    rintro rfl
    rw [hgg] at hc; cases hc
  refine ⟨g0, cap, u, rfl, hbg, hg0, by rw [hcell]; exact hu, by rw [List.getElem?_eq_getElem hi]; exact hr, by simp [World.frozen?, hgg], fun k hk => (hne i u k hi hu hk).2, ?_⟩
  intro w1 w3 u' r hb hg hr' hat
  have hkeep : ∀ k, k ≠ g0 → (w3.setCell ⟨g0, i, none⟩ u').heap[k]? = w3.heap[k]? := fun k hk => Below.heap_setCell _ _ _ _ hk
  have hold : ∀ k, k < W.heap.size → u.ownBlock ≠ some k → w3.heap[k]? = W.heap[k]? := fun k hk hn => (hg.block k (Nat.lt_of_lt_of_le hk hb.size) (fun e => hn e.symm)).trans (hb.block k hk)
  have hg3 : w3.heap[g0]? = some (.cells cur 24 (0, 0)) := (hold g0 hg0 (fun e => (hne i u g0 hi hu e).2 rfl)).trans hgg
  have hb2 : (w3.setCell ⟨g0, i, none⟩ u').heap[g0]? = some (.cells (cur.setIfInBounds i u') 24 (0, 0)) := cells_set hg3 i u'
  have hnew : ∀ k, u'.ownBlock = some k → k ≠ g0 := by
    intro k hk
    obtain ⟨_, _, c, hc⟩ := hr'.type hk
    rintro rfl
    rw [hg3] at hc; cases hc
  refine ⟨vs.set i u', ⟨by simpa using h1.1, .inr ⟨g0, cap, cur.setIfInBounds i u', by simp, hbg, hb2, by simpa using hnc, hcm, by simpa using hsz, ?_⟩⟩, fun j hj => ?_, ?_⟩
  · rw [← htk]
    simp only [Array.toList_setIfInBounds, List.length_set, Nat.mul_one]
    rw [List.take_set]
  · have hj' : j < L.length := by simpa using hj
    by_cases e : i = j
    · subst e
      exact ⟨u', by simp [hvl, hj'], by simpa using hr'.moved fun k hk => hkeep k (hnew k hk)⟩
    · obtain ⟨u2, hu2, hr2⟩ := h2 j hj'
      refine ⟨u2, by rw [List.getElem?_set_ne e]; exact hu2, ?_⟩
      rw [List.getElem_set_ne e]
      refine hr2.moved fun k hk => (hkeep k (hne j u2 k hj' hu2 hk).2).trans (hold k (hne j u2 k hj' hu2 hk).1 fun e2 => e (h3 i j u u2 k hu hu2 e2 hk))
  · intro p q x y k hp hq hx hy
    have hin : ∀ {p : Nat} {x : Value}, (vs.set i u')[p]? = some x → (p = i ∧ x = u') ∨ (p ≠ i ∧ p < L.length ∧ vs[p]? = some x) := by
      intro p x h
      by_cases e : i = p
      · subst e
        rw [List.getElem?_set_self (by omega)] at h
        exact .inl ⟨rfl, (Option.some.inj h).symm⟩
      · rw [List.getElem?_set_ne e] at h
        exact .inr ⟨fun h => e h.symm, by have := (List.getElem?_eq_some_iff.1 h).1; omega, h⟩
    have hdif : ∀ {p : Nat} {x : Value}, p ≠ i → p < L.length → vs[p]? = some x → x.ownBlock = some k → u'.ownBlock = some k → False := by
      intro p x h4 h5 h6 h7 h8
      rcases hat with h9 | h9
      · rw [h9] at h8
        exact h4 (h3 p i x u k h6 hu h7 h8)
      · rw [h9] at h8
        have := (hne p x k h5 h6 h7).1
        have := hb.size
        cases h8; omega
    rcases hin hp with ⟨h4, h5⟩ | ⟨h4, h5, h6⟩ <;> rcases hin hq with ⟨h7, h8⟩ | ⟨h7, h8, h9⟩
    · omega
    · subst h5; exact (hdif h7 h8 h9 hy hx).elim
    · subst h8; exact (hdif h4 h5 h6 hx hy).elim
    · exact h3 p q x y k h6 h9 hx hy

end

section
open Go.RowKit
set_option linter.unusedVariables false
set_option linter.unusedSimpArgs false

def RatBlk (w : World) (g : Nat) (l : List Rt) : Prop := w.heap[g]? = some (.cells (ratVals l).toArray 29 (0, 0))
theorem RatBlk.lt {w : World} {g : Nat} {l : List Rt} (h : RatBlk w g l) : g < w.heap.size := (Array.getElem?_eq_some_iff.1 h).1
theorem RatBlk.keep {w w' : World} {g : Nat} {l : List Rt} (h : RatBlk w g l) (hk : w'.heap[g]? = w.heap[g]?) : RatBlk w' g l := hk.trans h
theorem RatBlk.cells {w : World} {g : Nat} {l : List Rt} (h : RatBlk w g l) {k : Nat} (hk : k < l.length) : w.cell? ⟨g, k * 2, none⟩ = some (.int .i64 l[k].1) ∧ w.cell? ⟨g, k * 2 + 1, none⟩ = some (.int .i64 l[k].2) ∧ ∀ o, w.frozen? ⟨g, o, none⟩ = false := by
  unfold RatBlk at h
  refine ⟨?_, ?_, fun o => by simp [World.frozen?, h]⟩
  · have := ratVals_at l k 0 hk (by omega)
    simp [World.cell?, h]; rw [Nat.add_zero] at this; rw [this]; rfl
  · have := ratVals_at l k 1 hk (by omega)
    simp [World.cell?, h]; rw [this]; rfl
theorem ratVals_set : ∀ (l : List Rt) (k : Nat) (p q : Int), k < l.length → ((ratVals l).set (k * 2) (.int .i64 p)).set (k * 2 + 1) (.int .i64 q) = ratVals (l.set k (p, q))
  | x :: l, 0, p, q, _ => by simp [ratVals, ratCells]
  | x :: l, k + 1, p, q, h => by
    have ih := ratVals_set l k p q (by simpa using h)
    have e : ratVals (x :: l) = .int .i64 x.1 :: .int .i64 x.2 :: ratVals l := rfl
    rw [e, show (k + 1) * 2 = (k * 2 + 1) + 1 by omega]
    simp only [List.set_cons_succ]
    rw [ih]; rfl
theorem RatBlk.set {w : World} {g : Nat} {l : List Rt} (h : RatBlk w g l) {k : Nat} (hk : k < l.length) (p q : Int) : RatBlk ((w.setCell ⟨g, k * 2, none⟩ (.int .i64 p)).setCell ⟨g, k * 2 + 1, none⟩ (.int .i64 q)) g (l.set k (p, q)) := by
  unfold RatBlk
  rw [cells_set (cells_set h (k * 2) (.int .i64 p)) (k * 2 + 1) (.int .i64 q), ← ratVals_set l k p q hk]
  congr 2
  apply Array.toList_inj.1
  simp
theorem RatBlk.own {w : World} {base g n : Nat} {l : List Rt} (h : RatBlk w g l) (hl : l.length = n) (hn : n ≤ maxLen) (hb : base ≤ g) : RatsO w base (.slice (some ⟨g, 0, none⟩) n n) l := by
  subst hl
  refine ⟨ratVals_length l, .inr ⟨g, _, _, rfl, hb, h, Nat.le_refl _, hn, by simp [ratVals_length], ?_⟩⟩
  rw [← ratVals_length l]; simp
def addY (L : List (List Int)) (y : List Int) (k : Nat) : List (List Int) := withY (L.take k) (y.take k) ++ L.drop k
end
end

section
section
open Go.RowKit
set_option linter.unusedVariables false
set_option linter.unusedSimpArgs false

end

section
open Go.RowKit
set_option linter.unusedVariables false
set_option linter.unusedSimpArgs false

end
end
end Go.Proofs.YtlffndehhhpgjaaGreat

namespace Go.Proofs.YtlffndehhhpgjaaGreat
section
set_option linter.unusedVariables false
set_option linter.unusedSimpArgs false

theorem foldl_set_len {α : Type} (f : Nat → α) (g : Nat → Nat) (l : List α) : ∀ (K : Nat), ((List.range K).foldl (fun out i => out.set (g i) (f i)) l).length = l.length
  | 0 => by simp
  | K + 1 => by rw [List.range_succ, List.foldl_append]; simp [foldl_set_len f g l K]
theorem foldl_set_at {α : Type} (f : Nat → α) (g : Nat → Nat) (l : List α) : ∀ (K i : Nat), i < K → g i < l.length → (∀ a b, a < b → b < K → g a ≠ g b) → ((List.range K).foldl (fun out i => out.set (g i) (f i)) l)[g i]? = some (f i)
  | 0, i, h, _, _ => by omega
  | K + 1, i, h, hl, hd => by
    rw [List.range_succ, List.foldl_append]
    simp only [List.foldl_cons, List.foldl_nil]
    by_cases e : i = K
    · subst e
      rw [List.getElem?_set_self (by rw [foldl_set_len]; exact hl)]
    · rw [List.getElem?_set_ne (fun e2 => hd i K (by omega) (by omega) e2.symm)]
      exact foldl_set_at f g l K i (by omega) hl (fun a b h1 h2 => hd a b h1 (by omega))

end

section
open Go.RowKit
set_option linter.unusedVariables false
set_option linter.unusedSimpArgs false

def rdE (M : Mask) (y : List Int) : Int := if okM M = true then readE M y else 1
theorem rd_check (M : Mask) (y : List Int) : rdE M y = checkE M y [] := by
  unfold rdE checkE readE pixE namedE
  cases okM M <;> simp [ascB]
theorem rd_ok {M : Mask} {y : List Int} (h : rdE M y = 0) : okM M = true ∧ y.length = M.length ∧ milB y = true := by
  rw [rd_check] at h
  obtain ⟨h1, h2, h3, _⟩ := check_ok h
  exact ⟨h1, h2, h3⟩

theorem r3Read_c (w : World) (a a2 : Option Addr) (n cap n2 cap2 : Nat) (M : Mask) (y : List Int) (hn : M.length = n) (hn2 : y.length = n2) (hm : n ≤ maxLen) (hm2 : n2 ≤ maxLen) (H : RowsAt w a M) (H2 : IntsAt w a2 y) :
    Calls Tryz.prog 71 #[.slice a n cap, .slice a2 n2 cap2] w fun e w' => e = .returned (.int .i64 (rdE M y)) ∧ w = w' := by
  have HV := hid (r2Valid_c w a n cap M hn hm H)
  have HR := hid (r3reading_c w a2 n cap n2 cap2 M y a hn hn2 hm2 H2)
  unfold rdE
  cases hok : okM M
  · rw [hok] at HV
    simp only [Bool.false_eq_true, if_false]
    clear hn hn2 H H2 hok HR
    go_enter Tryz.func71, Tryz.ntmps71
    go_wp2_with (go_at_call 68; refine HV.out.mono ?_; rintro e w1 ⟨rfl, rfl⟩)
    go_ret
    exact ⟨rfl, rfl⟩
  · rw [hok] at HV
    simp only [if_true]
    clear hn hn2 H H2 hok
    go_enter Tryz.func71, Tryz.ntmps71
    go_wp2_with (go_at_call 68; refine HV.out.mono ?_; rintro e w1 ⟨rfl, rfl⟩; refine Stop.of ?_)
    refine Stop.go ?_
    go_wp2_with (go_at_call 134; refine HR.out.mono ?_; rintro e w1 ⟨rfl, rfl⟩; refine Stop.of ?_)
    refine Stop.go ?_
    go_wp2
    go_ret
    exact ⟨rfl, rfl⟩

end

section
open Go.RowKit
set_option linter.unusedVariables false
set_option linter.unusedSimpArgs false

end

section
open Go.RowKit
set_option linter.unusedVariables false
set_option linter.unusedSimpArgs false

end
end Go.Proofs.YtlffndehhhpgjaaGreat

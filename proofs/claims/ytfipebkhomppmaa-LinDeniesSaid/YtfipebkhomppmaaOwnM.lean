/- Rows of ints that a call has made itself, and masks of such rows. -/
import Derived.Test.YtfipebkhomppmaaFltB
import Derived.Test.YtfipebkhomppmaaApp
import Derived.Test.YtfipebkhomppmaaHeld
namespace Go.Proofs.Ytfipebkhomppmaa
open Go.RowKit
set_option linter.unusedVariables false

/-- block g is a row of ints, maybe with room behind them -/
def SpRow (w : World) (g : Nat) (l : List Int) : Prop := ∃ sp : List Value, w.heap[g]? = some (.cells (l.map (Value.int .i64) ++ sp).toArray 3 (0, 0))
theorem SpRow.lt {w : World} {g : Nat} {l : List Int} (h : SpRow w g l) : g < w.heap.size := by obtain ⟨sp, h⟩ := h; exact (Array.getElem?_eq_some_iff.1 h).1
theorem SpRow.cell {w : World} {g : Nat} {l : List Int} (h : SpRow w g l) {j : Nat} (hj : j < l.length) : w.cell? ⟨g, j, none⟩ = some (.int .i64 (l[j]?.getD 0)) := by
  obtain ⟨sp, h⟩ := h
  simp [World.cell?, h, List.getElem?_append_left, hj]
theorem SpRow.frozen {w : World} {g : Nat} {l : List Int} (h : SpRow w g l) (j : Nat) : w.frozen? ⟨g, j, none⟩ = false := by
  obtain ⟨sp, h⟩ := h
  simp [World.frozen?, h]
theorem SpRow.keep {w w' : World} {g : Nat} {l : List Int} (h : SpRow w g l) (hk : w'.heap[g]? = w.heap[g]?) : SpRow w' g l := by
  obtain ⟨sp, h⟩ := h; exact ⟨sp, hk.trans h⟩
theorem SpRow.set {w : World} {g : Nat} {l : List Int} (h : SpRow w g l) (j : Nat) (hj : j < l.length) (n : Int) : SpRow (w.setCell ⟨g, j, none⟩ (.int .i64 n)) g (l.set j n) := by
  obtain ⟨sp, h⟩ := h
  refine ⟨sp, ?_⟩
  rw [cells_set h]
  congr 2
  apply Array.toList_inj.1
  simp [List.set_append, hj, List.map_set]
theorem SpRow.ints {w : World} {g : Nat} {l : List Int} (h : SpRow w g l) : IntsAt w (some ⟨g, 0, none⟩) l :=
  fun j hj => ⟨g, 0, rfl, h.lt, by rw [Nat.zero_add]; exact h.cell hj⟩

def setL (l : List Int) (o : Nat) : List Int → List Int
  | [] => l
  | x :: r => setL (l.set o x) (o + 1) r
theorem length_setL : ∀ (xs l : List Int) (o : Nat), (setL l o xs).length = l.length
  | [], _, _ => rfl
  | x :: r, l, o => by rw [setL, length_setL r]; simp
theorem getElem?_setL : ∀ (xs l : List Int) (o j : Nat), o + xs.length ≤ l.length → (setL l o xs)[j]? = if o ≤ j ∧ j < o + xs.length then xs[j - o]? else l[j]?
  | [], l, o, j, _ => by simp [setL]; omega
  | x :: r, l, o, j, h => by
    simp only [List.length_cons] at h
    rw [setL, getElem?_setL r (l.set o x) (o + 1) j (by simp; omega)]
    by_cases h1 : o + 1 ≤ j ∧ j < o + 1 + r.length
    · rw [if_pos h1, if_pos (by simp; omega)]
      rw [show j - o = (j - (o + 1)) + 1 by omega]; simp
    · rw [if_neg h1, List.getElem?_set]
      by_cases h2 : o = j
      · subst h2
        have : o < l.length := by omega
        simp [this]
      · rw [if_neg h2, if_neg (by simp; omega)]
theorem setL_all (l : List Int) : setL l 0 (List.replicate l.length 0) = List.replicate l.length 0 := by
  apply List.ext_getElem?
  intro j
  rw [getElem?_setL _ _ _ _ (by simp)]
  by_cases h : j < l.length <;> simp [h]

theorem SpRow.setCells : ∀ (xs : List Int) (o : Nat) (w : World) (g : Nat) (l : List Int), SpRow w g l → o + xs.length ≤ l.length → SpRow (w.setCells g o (xs.map (Value.int .i64))) g (setL l o xs)
  | [], _, _, _, _, h, _ => h
  | x :: r, o, w, g, l, h, hl => by
    simp only [List.length_cons] at hl
    rw [List.map_cons, World.setCells, setL]
    exact SpRow.setCells r (o + 1) _ g _ (h.set o (by omega) x) (by simp; omega)
theorem Keep.sets : ∀ (vs : List Value) (o : Nat) (w : World) (g : Nat), Keep (fun k => k ≠ g) w (w.setCells g o vs)
  | [], _, w, _ => Keep.refl _ _
  | v :: r, o, w, g => (Keep.set w g o v).trans (Keep.sets r (o + 1) _ g)

/-- a mask that the call has made since base: its rows lie in blocks of their own -/
def OwnM (w : World) (base : Nat) (v : Value) (M : Mask) : Prop :=
  ∃ (g : Nat → Nat) (vs : List Value), w.ownsRow base 31 1 v M.length vs ∧ (∀ i j, i < M.length → j < M.length → g i = g j → i = j) ∧
    ∀ j (hj : j < M.length), (∃ x, vs[j]? = some (.slice (some ⟨g j, 0, none⟩) M[j].length (M[j].length + x))) ∧ base ≤ g j ∧ SpRow w (g j) M[j]

theorem OwnM.nil (w : World) (base : Nat) : OwnM w base (.slice none 0 0) [] :=
  ⟨fun _ => 0, [], World.ownsRow_nil _ _ _ _, fun i j hi => by simp at hi, fun j hj => by simp at hj⟩

theorem OwnM.keep {w w' : World} {base : Nat} {v : Value} {M : Mask} (h : OwnM w base v M) (hk : ∀ k, base ≤ k → k < w.heap.size → w'.heap[k]? = w.heap[k]?) : OwnM w' base v M := by
  obtain ⟨g, vs, ho, hi, he⟩ := h
  refine ⟨g, vs, ⟨ho.1, ?_⟩, hi, fun j hj => ?_⟩
  · rcases ho.2 with hn | ⟨g, cap, cur, rfl, hb, hgg, rest⟩
    · exact .inl hn
    · exact .inr ⟨g, cap, cur, rfl, hb, (hk g hb (Array.getElem?_eq_some_iff.1 hgg).1).trans hgg, rest⟩
  · obtain ⟨h1, h2, h3⟩ := he j hj
    exact ⟨h1, h2, h3.keep (hk _ h2 h3.lt)⟩

theorem OwnM.at {w : World} {base : Nat} {v : Value} {M : Mask} (h : OwnM w base v M) (i : Nat) (hi : i < M.length) :
    ∃ g0 cap gi c, v = .slice (some ⟨g0, 0, none⟩) M.length cap ∧ g0 < w.heap.size ∧ w.cell? ⟨g0, i, none⟩ = some (.slice (some ⟨gi, 0, none⟩) M[i].length c) ∧ base ≤ gi ∧ SpRow w gi M[i] ∧
      ∀ w' r', r'.length = M[i].length → SpRow w' gi r' → (∀ k, k < w.heap.size → k ≠ gi → w'.heap[k]? = w.heap[k]?) → OwnM w' base v (M.set i r') := by
  obtain ⟨g, vs, ho, hin, he⟩ := h
  rcases ho.2 with ⟨rfl, h0⟩ | ⟨g0, cap, cur, rfl, hbg, hgg, hnc, hcm, hsz, htk⟩
  · omega
  obtain ⟨⟨c, h1⟩, h2, h3⟩ := he i hi
  have hc := World.ownsRow.cellAt (w := w) (base := base) (e := 31) (size := 1) (g := g0) (n := M.length) (cap := cap) (xs := vs) ⟨ho.1, .inr ⟨g0, cap, cur, rfl, hbg, hgg, hnc, hcm, hsz, htk⟩⟩ i (by omega)
  refine ⟨g0, cap, g i, _, rfl, (Array.getElem?_eq_some_iff.1 hgg).1, by rw [hc, h1], h2, h3, ?_⟩
  intro w' r' hl hr hk
  have hne : g0 ≠ g i := by
    intro e
    obtain ⟨sp, h3⟩ := h3
    rw [← e, hgg] at h3
    cases h3
  refine ⟨g, vs, ⟨by simpa using ho.1, .inr ⟨g0, cap, cur, by simp, hbg, (hk g0 (Array.getElem?_eq_some_iff.1 hgg).1 hne).trans hgg, by simpa using hnc, hcm, hsz, by simpa using htk⟩⟩, fun a b ha hb => hin a b (by simpa using ha) (by simpa using hb), fun j hj => ?_⟩
  have hj' : j < M.length := by simpa using hj
  obtain ⟨⟨c', h1'⟩, h2', h3'⟩ := he j hj'
  by_cases e : i = j
  · subst e
    refine ⟨⟨c', ?_⟩, h2', ?_⟩
    · rw [h1']; simp [hl]
    · simpa using hr
  · refine ⟨⟨c', ?_⟩, h2', ?_⟩
    · rw [h1']; simp [List.getElem_set_ne e]
    · rw [List.getElem_set_ne e]
      exact h3'.keep (hk _ h3'.lt (fun e' => e ((hin j i hj' hi e').symm)))

theorem OwnM.rows {w : World} {base : Nat} {v : Value} {M : Mask} (h : OwnM w base v M) (hl : ∀ r ∈ M, r.length ≤ maxLen) : ∃ a cap, v = .slice a M.length cap ∧ RowsAt w a M := by
  by_cases h0 : M = []
  · subst h0
    obtain ⟨g, vs, ho, _⟩ := h
    obtain ⟨a, cap, rfl⟩ := ownsRow_slice ho
    exact ⟨a, cap, rfl, fun j hj => by simp at hj⟩
  · have hp : 0 < M.length := List.length_pos_iff.2 h0
    obtain ⟨g0, cap, _, _, rfl, _⟩ := h.at 0 hp
    refine ⟨some ⟨g0, 0, none⟩, cap, rfl, fun j hj => ?_⟩
    obtain ⟨g0', cap', gi, c, e, hlt, hc, _, hr, _⟩ := h.at j hj
    cases e
    exact ⟨g0, 0, some ⟨gi, 0, none⟩, _, c, rfl, hlt, by rw [Nat.zero_add]; exact hc, rfl, hl _ (List.getElem_mem hj), hr.ints⟩


theorem OwnM.snoc {w w1 w3 : World} {base gn cap : Nat} {v v' : Value} {M : Mask} {r : List Int} {g : Nat → Nat} {vs : List Value}
    (ho : w.ownsRow base 31 1 v M.length vs) (hin : ∀ i j, i < M.length → j < M.length → g i = g j → i = j)
    (he : ∀ j (hj : j < M.length), (∃ x, vs[j]? = some (.slice (some ⟨g j, 0, none⟩) M[j].length (M[j].length + x))) ∧ base ≤ g j ∧ SpRow w (g j) M[j])
    (hb1 : Below w.heap.size w w1) (hr : SpRow w1 gn r) (hgn : w.heap.size ≤ gn) (hcap : r.length ≤ cap) (hbase : base ≤ w.heap.size) (hg : w1.grownBy w3 v.ownBlock)
    (ho' : w3.ownsRow base 31 1 v' (M.length + 1) (vs ++ [.slice (some ⟨gn, 0, none⟩) r.length cap])) : OwnM w3 base v' (M ++ [r]) := by
  have hlen : vs.length = M.length := by have := ho.1; omega
  have hown : ∀ b, v.ownBlock = some b → b < w.heap.size ∧ ∃ c f, w.heap[b]? = some (.cells c 31 f) := by
    intro b hb
    rcases ho.2 with ⟨rfl, _⟩ | ⟨g, cap, cur, rfl, hbg, hgg, _⟩
    · simp [Value.ownBlock] at hb
    · obtain rfl : g = b := by simpa [Value.ownBlock] using hb
      exact ⟨(Array.getElem?_eq_some_iff.1 hgg).1, cur, _, hgg⟩
  have hold : ∀ b l, SpRow w b l → w3.heap[b]? = w.heap[b]? := by
    intro b l hs
    refine (hg.block b (Nat.lt_of_lt_of_le hs.lt hb1.size) ?_).trans (hb1.block b hs.lt)
    intro e
    obtain ⟨_, c, f, hc⟩ := hown b e.symm
    obtain ⟨sp, hs⟩ := hs
    rw [hs] at hc
    simp at hc
  have hnew : w3.heap[gn]? = w1.heap[gn]? := by
    refine hg.block gn hr.lt ?_
    intro e
    have := (hown gn e.symm).1
    omega
  refine ⟨fun j => if j < M.length then g j else gn, vs ++ [.slice (some ⟨gn, 0, none⟩) r.length cap], by simpa using ho', ?_, ?_⟩
  · intro i j hi hj e
    simp only [List.length_append, List.length_cons, List.length_nil, Nat.zero_add] at hi hj
    by_cases h1 : i < M.length <;> by_cases h2 : j < M.length <;> simp only [h1, h2, if_true, if_false] at e
    · exact hin i j h1 h2 e
    · have := (he i h1).2.2.lt; omega
    · have := (he j h2).2.2.lt; omega
    · omega
  · intro j hj
    simp only [List.length_append, List.length_cons, List.length_nil, Nat.zero_add] at hj
    by_cases h1 : j < M.length
    · obtain ⟨⟨c, hc⟩, h2, h3⟩ := he j h1
      simp only [h1, if_true]
      rw [List.getElem_append_left h1]
      exact ⟨⟨c, by rw [List.getElem?_append_left (by omega)]; exact hc⟩, h2, h3.keep (hold _ _ h3)⟩
    · obtain rfl : j = M.length := by omega
      simp only [Nat.lt_irrefl, if_false]
      rw [List.getElem_append_right (Nat.le_refl _)]
      simp only [Nat.sub_self, List.getElem_cons_zero]
      exact ⟨⟨cap - r.length, by rw [List.getElem?_append_right (by omega), hlen, show r.length + (cap - r.length) = cap by omega]; simp⟩, by omega, hr.keep hnew⟩


theorem spRow_own {w : World} {b0 : Nat} {v : Value} {l : List Int} {n : Nat} (h : w.ownsRow b0 3 1 v n (l.map (Value.int .i64))) (hn : l.length = n) (h0 : 0 < n) : ∃ g cap, v = .slice (some ⟨g, 0, none⟩) n cap ∧ b0 ≤ g ∧ SpRow w g l := by
  rcases h.2 with ⟨rfl, h1⟩ | ⟨g, cap, cur, rfl, hbg, hgg, hnc, hcm, hsz, htk⟩
  · omega
  · refine ⟨g, cap, rfl, hbg, cur.toList.drop n, ?_⟩
    rw [hgg]
    congr 2
    apply Array.toList_inj.1
    simp only [Nat.mul_one] at htk
    rw [← htk]
    simp


theorem own_cap {w : World} {base size n cap : Nat} {T : TypeId} {a : Option Addr} {xs : List Value} (h : w.ownsRow base T size (.slice a n cap) n xs) : n ≤ cap := by
  rcases h.2 with ⟨e, rfl⟩ | ⟨g, c, cur, e, hbg, hgg, hnc, _⟩
  · exact Nat.zero_le _
  · cases e; exact hnc
/-- the same, all its blocks below top -/
def OwnT (w : World) (base top : Nat) (v : Value) (M : List (List Int)) : Prop :=
  ∃ (g : Nat → Nat) (vs : List Value), w.ownsRow base 31 1 v M.length vs ∧ (∀ k, v.ownBlock = some k → k < top) ∧ (∀ i j, i < M.length → j < M.length → g i = g j → i = j) ∧
    ∀ j (hj : j < M.length), (∃ x, vs[j]? = some (.slice (some ⟨g j, 0, none⟩) M[j].length (M[j].length + x))) ∧ base ≤ g j ∧ g j < top ∧ SpRow w (g j) M[j]
theorem OwnT.of {w : World} {base : Nat} {v : Value} {M : List (List Int)} (h : OwnM w base v M) : OwnT w base w.heap.size v M := by
  obtain ⟨g, vs, ho, hi, he⟩ := h
  exact ⟨g, vs, ho, fun k hk => (ho.lt k hk).2, hi, fun j hj => by obtain ⟨h1, h2, h3⟩ := he j hj; exact ⟨h1, h2, h3.lt, h3⟩⟩
theorem OwnT.keep {w w' : World} {base top : Nat} {v : Value} {M : List (List Int)} (h : OwnT w base top v M) (hk : ∀ k, base ≤ k → k < top → k < w.heap.size → w'.heap[k]? = w.heap[k]?) : OwnT w' base top v M := by
  obtain ⟨g, vs, ho, ht, hi, he⟩ := h
  refine ⟨g, vs, ⟨ho.1, ?_⟩, ht, hi, fun j hj => ?_⟩
  · rcases ho.2 with hn | ⟨g, cap, cur, rfl, hb, hgg, rest⟩
    · exact .inl hn
    · exact .inr ⟨g, cap, cur, rfl, hb, (hk g hb (ht g rfl) (Array.getElem?_eq_some_iff.1 hgg).1).trans hgg, rest⟩
  · obtain ⟨h1, h2, h3, h4⟩ := he j hj
    exact ⟨h1, h2, h3, h4.keep (hk _ h2 h3 h4.lt)⟩
/-- the row i: its header's cell, its block; what a change of it leaves -/
theorem OwnT.at {w : World} {base top : Nat} {v : Value} {M : List (List Int)} (h : OwnT w base top v M) (i : Nat) (hi : i < M.length) :
    ∃ g0 cap gi c, v = .slice (some ⟨g0, 0, none⟩) M.length cap ∧ g0 < w.heap.size ∧ base ≤ g0 ∧ g0 < top ∧ w.cell? ⟨g0, i, none⟩ = some (.slice (some ⟨gi, 0, none⟩) M[i].length c) ∧ (∀ j, w.frozen? ⟨g0, j, none⟩ = false) ∧ base ≤ gi ∧ gi < top ∧ g0 ≠ gi ∧ SpRow w gi M[i] ∧ M.length ≤ maxLen ∧ M.length ≤ cap ∧
      ∀ w' r', r'.length = M[i].length → SpRow w' gi r' → (∀ k, base ≤ k → k < top → k < w.heap.size → k ≠ gi → w'.heap[k]? = w.heap[k]?) → OwnT w' base top v (M.set i r') := by
  obtain ⟨g, vs, ho, ht, hin, he⟩ := h
  rcases ho.2 with ⟨rfl, h0⟩ | ⟨g0, cap, cur, rfl, hbg, hgg, hnc, hcm, hsz, htk⟩
  · omega
  obtain ⟨⟨c, h1⟩, h2, h3, h4⟩ := he i hi
  have hc := World.ownsRow.cellAt (w := w) (base := base) (e := 31) (size := 1) (g := g0) (n := M.length) (cap := cap) (xs := vs) ⟨ho.1, .inr ⟨g0, cap, cur, rfl, hbg, hgg, hnc, hcm, hsz, htk⟩⟩ i (by omega)
  have hne : g0 ≠ g i := by
    intro e
    obtain ⟨sp, h4⟩ := h4
    rw [← e, hgg] at h4
    cases h4
  refine ⟨g0, cap, g i, _, rfl, (Array.getElem?_eq_some_iff.1 hgg).1, hbg, ht g0 rfl, by rw [hc, h1], fun j => by simp [World.frozen?, hgg], h2, h3, hne, h4, by omega, hnc, ?_⟩
  intro w' r' hl hr hk
  refine ⟨g, vs, ⟨by simpa using ho.1, .inr ⟨g0, cap, cur, by simp, hbg, (hk g0 hbg (ht g0 rfl) (Array.getElem?_eq_some_iff.1 hgg).1 hne).trans hgg, by simpa using hnc, hcm, hsz, by simpa using htk⟩⟩, ht, fun a b ha hb => hin a b (by simpa using ha) (by simpa using hb), fun j hj => ?_⟩
  have hj' : j < M.length := by simpa using hj
  obtain ⟨⟨c', h1'⟩, h2', h3', h4'⟩ := he j hj'
  by_cases e : i = j
  · subst e
    refine ⟨⟨c', ?_⟩, h2', h3', ?_⟩
    · rw [h1']; simp [hl]
    · simpa using hr
  · refine ⟨⟨c', ?_⟩, h2', h3', ?_⟩
    · rw [h1']; simp [List.getElem_set_ne e]
    · rw [List.getElem_set_ne e]
      exact h4'.keep (hk _ h2' h3' h4'.lt (fun e' => e ((hin j i hj' hi e').symm)))

theorem swap_get {α : Type} {l : List α} {i j k : Nat} (hi : i < l.length) (hj : j < l.length) : ((l.set i l[j]).set j l[i])[k]? = if k = j then some l[i] else if k = i then some l[j] else l[k]? := by
  rw [List.getElem?_set, List.getElem?_set]
  by_cases e1 : k = j
  · subst e1; simp [hj]
  · rw [if_neg (Ne.symm e1), if_neg e1]
    by_cases e2 : k = i
    · subst e2; simp [hi]
    · rw [if_neg (Ne.symm e2), if_neg e2]

/-- two rows' headers exchanged -/
theorem OwnT.swap {w : World} {base top : Nat} {v : Value} {M : List (List Int)} (h : OwnT w base top v M) {i j : Nat} (hi : i < M.length) (hj : j < M.length) {g0 cap : Nat} {hi' hj' : Value} (hv : v = .slice (some ⟨g0, 0, none⟩) M.length cap)
    (ci : w.cell? ⟨g0, i, none⟩ = some hi') (cj : w.cell? ⟨g0, j, none⟩ = some hj') :
    OwnT ((w.setCell ⟨g0, i, none⟩ hj').setCell ⟨g0, j, none⟩ hi') base top v ((M.set i M[j]).set j M[i]) ∧ ∀ k, k ≠ g0 → ((w.setCell ⟨g0, i, none⟩ hj').setCell ⟨g0, j, none⟩ hi').heap[k]? = w.heap[k]? := by
  have hkeep : ∀ k, k ≠ g0 → ((w.setCell ⟨g0, i, none⟩ hj').setCell ⟨g0, j, none⟩ hi').heap[k]? = w.heap[k]? := fun k hk =>
    (Below.heap_setCell _ _ _ _ hk).trans (Below.heap_setCell _ _ _ _ hk)
  refine ⟨?_, hkeep⟩
  obtain ⟨g, vs, ho, ht, hin, he⟩ := h
  subst hv
  rcases ho.2 with ⟨hc, h0⟩ | ⟨g1, cap', cur, hv, hbg, hgg, hnc, hcm, hsz, htk⟩
  · cases hc
  cases hv
  have hcell := World.ownsRow.cellAt (w := w) (base := base) (e := 31) (size := 1) (g := g0) (n := M.length) (cap := cap) (xs := vs) ⟨ho.1, .inr ⟨g0, cap, cur, rfl, hbg, hgg, hnc, hcm, hsz, htk⟩⟩
  have hvl : vs.length = M.length := by have := ho.1; omega
  have ei : vs[i]'(by omega) = hi' := by have := hcell i (by omega); rw [ci, List.getElem?_eq_getElem (by omega)] at this; exact (Option.some.inj this).symm
  have ej : vs[j]'(by omega) = hj' := by have := hcell j (by omega); rw [cj, List.getElem?_eq_getElem (by omega)] at this; exact (Option.some.inj this).symm
  have hb2 : ((w.setCell ⟨g0, i, none⟩ hj').setCell ⟨g0, j, none⟩ hi').heap[g0]? = some (.cells ((cur.setIfInBounds i hj').setIfInBounds j hi') 31 (0, 0)) := cells_set (cells_set hgg i hj') j hi'
  have hcl : cur.toList.length = cap := by simpa using hsz
  have hML : M.length ≤ cap := hnc
  refine ⟨fun k => if k = j then g i else if k = i then g j else g k, (vs.set i (vs[j]'(by omega))).set j (vs[i]'(by omega)), ⟨by simpa using ho.1, .inr ⟨g0, cap, (cur.setIfInBounds i hj').setIfInBounds j hi', by simp, hbg, hb2, by simpa using hnc, hcm, by simpa using hsz, ?_⟩⟩, ht, ?_, ?_⟩
  · rw [ei, ej, ← htk]
    simp only [Array.toList_setIfInBounds, List.length_set, Nat.mul_one]
    rw [List.take_set, List.take_set]
  · intro a b ha hb
    have ha' : a < M.length := by simpa using ha
    have hb' : b < M.length := by simpa using hb
    have hs : ∀ k, (if k = j then g i else if k = i then g j else g k) = g (if k = j then i else if k = i then j else k) := fun k => by
      by_cases e1 : k = j
      · rw [if_pos e1, if_pos e1]
      · rw [if_neg e1, if_neg e1]
        by_cases e2 : k = i
        · rw [if_pos e2, if_pos e2]
        · rw [if_neg e2, if_neg e2]
    have hlt : ∀ k, k < M.length → (if k = j then i else if k = i then j else k) < M.length := fun k hk => by
      split
      · exact hi
      · split
        · exact hj
        · exact hk
    intro hg
    simp only [hs] at hg
    have h2 := hin _ _ (hlt a ha') (hlt b hb') hg
    clear hg hs hlt hin he
    (repeat' split at h2) <;> omega
  · intro k hk
    have hk' : k < M.length := by simpa using hk
    have hm := swap_get (k := k) hi hj
    rw [List.getElem?_eq_getElem (by simpa using hk')] at hm
    have hs := swap_get (l := vs) (i := i) (j := j) (k := k) (by omega) (by omega)
    have hsp : ∀ x, x < M.length → ((w.setCell ⟨g0, i, none⟩ hj').setCell ⟨g0, j, none⟩ hi').heap[g x]? = w.heap[g x]? := fun x hx => hkeep _ (by
      intro e
      obtain ⟨_, _, _, sp, h4⟩ := he x hx
      rw [e, hgg] at h4
      cases h4)
    by_cases e1 : k = j
    · subst e1
      obtain ⟨⟨c', h1'⟩, h2', h3', h4'⟩ := he i hi
      simp only [if_true] at hm hs ⊢
      have hm' := Option.some.inj hm
      rw [hm']
      refine ⟨⟨c', ?_⟩, h2', h3', h4'.keep (hsp i hi)⟩
      rw [hs, ← h1', List.getElem?_eq_getElem]
    · by_cases e2 : k = i
      · subst e2
        obtain ⟨⟨c', h1'⟩, h2', h3', h4'⟩ := he j hj
        simp only [if_neg e1, if_true] at hm hs ⊢
        have hm' := Option.some.inj hm
        rw [hm']
        refine ⟨⟨c', ?_⟩, h2', h3', h4'.keep (hsp j hj)⟩
        rw [hs, ← h1', List.getElem?_eq_getElem]
      · obtain ⟨⟨c', h1'⟩, h2', h3', h4'⟩ := he k hk'
        simp only [if_neg e1, if_neg e2] at hm hs ⊢
        rw [List.getElem?_eq_getElem hk'] at hm
        have hm' := Option.some.inj hm
        rw [hm']
        refine ⟨⟨c', ?_⟩, h2', h3', h4'.keep (hsp k hk')⟩
        rw [hs, h1']
theorem own_keep {S : Nat → Prop} {W W' : World} {base size n : Nat} {T : TypeId} {v : Value} {xs : List Value} (h : W.ownsRow base T size v n xs) (hk : Keep S W W') (h1 : ∀ k, base ≤ k → S k) : W'.ownsRow base T size v n xs := by
  refine ⟨h.1, ?_⟩
  rcases h.2 with hn | ⟨g, cap, cur, rfl, hbg, hgg, rest⟩
  · exact .inl hn
  · exact .inr ⟨g, cap, cur, rfl, hbg, (hk.block g (Array.getElem?_eq_some_iff.1 hgg).1 (h1 g hbg)).trans hgg, rest⟩
theorem own_below {W W' : World} {base size n : Nat} {T : TypeId} {v : Value} {xs : List Value} (h : W.ownsRow base T size v n xs) (hb : Below W.heap.size W W') : W'.ownsRow base T size v n xs :=
  own_keep (S := fun _ => True) h (Keep.of_below hb) (fun _ _ => trivial)
theorem OwnT.info {w : World} {base top g0 n cap : Nat} {M : List (List Int)} (h : OwnT w base top (.slice (some ⟨g0, 0, none⟩) n cap) M) (hn : M.length = n) : base ≤ g0 ∧ g0 < top ∧ g0 < w.heap.size ∧ n ≤ cap ∧ cap ≤ maxLen ∧ (∀ j, w.frozen? ⟨g0, j, none⟩ = false) ∧ ∃ c f, w.heap[g0]? = some (.cells c 31 f) := by
  subst hn
  obtain ⟨g, vs, ho, ht, hin, he⟩ := h
  rcases ho.2 with ⟨hc, h0⟩ | ⟨g1, cap1, cur, e, hbg, hgg, hnc, hcm, hsz, htk⟩
  · cases hc
  · cases e
    exact ⟨hbg, ht g0 rfl, (Array.getElem?_eq_some_iff.1 hgg).1, hnc, hcm, fun j => by simp [World.frozen?, hgg], cur, _, hgg⟩
theorem OwnT.rowsAt {w : World} {base top g0 n cap : Nat} {M : List (List Int)} (h : OwnT w base top (.slice (some ⟨g0, 0, none⟩) n cap) M) (hn : M.length = n) (hl : ∀ r ∈ M, r.length ≤ maxLen) : RowsAt w (some ⟨g0, 0, none⟩) M := by
  subst hn
  intro j hj
  obtain ⟨g0', cap', gi, c, e, hlt, _, _, hc, _, _, _, _, hr, _⟩ := h.at j hj
  cases e
  exact ⟨g0, 0, some ⟨gi, 0, none⟩, _, c, rfl, hlt, by rw [Nat.zero_add]; exact hc, rfl, hl _ (List.getElem_mem hj), hr.ints⟩
/-- the row i, the header's value named -/
theorem OwnT.row {w : World} {base top g0 n cap : Nat} {M : List (List Int)} (h : OwnT w base top (.slice (some ⟨g0, 0, none⟩) n cap) M) (hn : M.length = n) (i : Nat) (hi : i < M.length) :
    ∃ gi c, w.cell? ⟨g0, i, none⟩ = some (.slice (some ⟨gi, 0, none⟩) M[i].length c) ∧ base ≤ gi ∧ gi < top ∧ g0 ≠ gi ∧ SpRow w gi M[i] ∧
      ∀ w' r', r'.length = M[i].length → SpRow w' gi r' → (∀ k, base ≤ k → k < top → k < w.heap.size → k ≠ gi → w'.heap[k]? = w.heap[k]?) → OwnT w' base top (.slice (some ⟨g0, 0, none⟩) n cap) (M.set i r') := by
  subst hn
  obtain ⟨g0', cap', gi, c, e, _, _, _, hc, _, h1, h2, h3, h4, _, _, h5⟩ := h.at i hi
  cases e
  exact ⟨gi, c, hc, h1, h2, h3, h4, h5⟩
/-- different rows lie in different blocks -/
theorem OwnT.ne {w : World} {base top g0 n cap : Nat} {M : List (List Int)} (h : OwnT w base top (.slice (some ⟨g0, 0, none⟩) n cap) M) (hn : M.length = n) {i j : Nat} (hi : i < M.length) (hj : j < M.length) (hne : i ≠ j) {gi gj ni nj ci cj : Nat}
    (h1 : w.cell? ⟨g0, i, none⟩ = some (.slice (some ⟨gi, 0, none⟩) ni ci)) (h2 : w.cell? ⟨g0, j, none⟩ = some (.slice (some ⟨gj, 0, none⟩) nj cj)) : gi ≠ gj := by
  subst hn
  obtain ⟨g, vs, ho, ht, hin, he⟩ := h
  have hcell : ∀ k, k < M.length → w.cell? ⟨g0, k, none⟩ = vs[k]? := fun k hk => by
    have := World.ownsRow.cellAt (w := w) (base := base) (e := 31) (size := 1) (g := g0) (n := M.length) (cap := cap) (xs := vs) ho k (by omega)
    exact this
  obtain ⟨⟨c, k1⟩, _⟩ := he i hi
  obtain ⟨⟨c', k2⟩, _⟩ := he j hj
  rw [hcell i hi, k1] at h1
  rw [hcell j hj, k2] at h2
  cases h1; cases h2
  exact fun e => hne (hin i j hi hj e)
theorem OwnT.rows {w : World} {base top : Nat} {v : Value} {M : List (List Int)} (h : OwnT w base top v M) (hl : ∀ r ∈ M, r.length ≤ maxLen) : ∃ a cap, v = .slice a M.length cap ∧ RowsAt w a M := by
  by_cases h0 : M = []
  · subst h0
    obtain ⟨g, vs, ho, _⟩ := h
    obtain ⟨a, cap, rfl⟩ := ownsRow_slice ho
    exact ⟨a, cap, rfl, fun j hj => by simp at hj⟩
  · have hp : 0 < M.length := List.length_pos_iff.2 h0
    obtain ⟨g0, cap, _, _, rfl, _⟩ := h.at 0 hp
    refine ⟨some ⟨g0, 0, none⟩, cap, rfl, fun j hj => ?_⟩
    obtain ⟨g0', cap', gi, c, e, hlt, _, _, hc, _, _, _, _, hr, _⟩ := h.at j hj
    cases e
    exact ⟨g0, 0, some ⟨gi, 0, none⟩, _, c, rfl, hlt, by rw [Nat.zero_add]; exact hc, rfl, hl _ (List.getElem_mem hj), hr.ints⟩
/-- the rows' capacities -/
theorem OwnT.caps {w : World} {base top g0 n cap : Nat} {M : List (List Int)} (h : OwnT w base top (.slice (some ⟨g0, 0, none⟩) n cap) M) (hn : M.length = n) (i : Nat) (hi : i < M.length) :
    ∃ gi x, w.cell? ⟨g0, i, none⟩ = some (.slice (some ⟨gi, 0, none⟩) M[i].length (M[i].length + x)) ∧ gi < w.heap.size ∧ SpRow w gi M[i] := by
  subst hn
  obtain ⟨g, vs, ho, ht, hin, he⟩ := h
  have hcell := World.ownsRow.cellAt (w := w) (base := base) (e := 31) (size := 1) (g := g0) (n := M.length) (cap := cap) (xs := vs) ho i (by omega)
  obtain ⟨⟨x, h1⟩, h2, h3, h4⟩ := he i hi
  exact ⟨g i, x, hcell.trans h1, h4.lt, h4⟩
end Go.Proofs.Ytfipebkhomppmaa

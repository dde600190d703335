/- Slices of slices of ints that a call makes and appends to, and what they read as. -/
import Derived.Test.YtfipebkhomppmaaRange
namespace Go.Proofs.Ytfipebkhomppmaa
open Go.RowKit
set_option linter.unusedVariables false

/-- the cells of a slice of slices of ints -/
def RowsAt (w : World) (a : Option Addr) (ls : List (List Int)) : Prop :=
  ∀ j (hj : j < ls.length), ∃ b off ra n cap, a = some ⟨b, off, none⟩ ∧ b < w.heap.size ∧ w.cell? ⟨b, off + j, none⟩ = some (.slice ra n cap) ∧ ls[j].length = n ∧ n ≤ maxLen ∧ IntsAt w ra ls[j]
theorem RowsAt.below {w w' : World} {a : Option Addr} {l : List (List Int)} (h : RowsAt w a l) (hb : Below w.heap.size w w') : RowsAt w' a l := by
  intro j hj
  obtain ⟨b, off, ra, n, cap, e, hlt, h0, hn, hm, hi⟩ := h j hj
  exact ⟨b, off, ra, n, cap, e, Nat.lt_of_lt_of_le hlt hb.size, (hb.cell (p := ⟨b, _, none⟩) hlt).trans h0, hn, hm, hi.below hb⟩

/-- a value that is a slice of ints, in blocks that S takes, each of them old or a row of ints -/
def ElemI (E : TypeId) (W : World) (base : Nat) (S : Nat → Prop) (v : Value) (l : List Int) : Prop :=
  ∃ a n cap, v = .slice a n cap ∧ l.length = n ∧ n ≤ maxLen ∧ ∀ j, j < l.length → ∃ b off, a = some ⟨b, off, none⟩ ∧ S b ∧ b < W.heap.size ∧
    (b < base ∨ ∃ c f, W.heap[b]? = some (.cells c E f)) ∧ W.cell? ⟨b, off + j, none⟩ = some (.int .i64 (l[j]?.getD 0))

theorem ElemI.keep {E : TypeId} {W W' : World} {base : Nat} {S T : Nat → Prop} {v : Value} {l : List Int} (h : ElemI E W base S v l) (hk : Keep T W W')
    (hT : ∀ b, S b → b < W.heap.size → (b < base ∨ ∃ c f, W.heap[b]? = some (.cells c E f)) → T b) : ElemI E W' base S v l := by
  obtain ⟨a, n, cap, e, hn, hm, hj⟩ := h
  refine ⟨a, n, cap, e, hn, hm, fun j hlt => ?_⟩
  obtain ⟨b, off, e, hS, hb, hty, hc⟩ := hj j hlt
  have ht := hT b hS hb hty
  refine ⟨b, off, e, hS, Nat.lt_of_lt_of_le hb hk.size, ?_, hk.cell hc ht⟩
  rcases hty with h | ⟨c, f, h⟩
  · exact .inl h
  · exact .inr ⟨c, f, (hk.block b hb ht).trans h⟩

theorem ElemI.ints {E : TypeId} {W : World} {base : Nat} {S : Nat → Prop} {l : List Int} {a : Option Addr} {n cap : Nat} (h : ElemI E W base S (.slice a n cap) l) : l.length = n ∧ n ≤ maxLen ∧ IntsAt W a l := by
  obtain ⟨a', n', cap', e, hn, hm, hj⟩ := h
  cases e
  refine ⟨hn, hm, fun j hlt => ?_⟩
  obtain ⟨b, off, e, _, hb, _, hc⟩ := hj j hlt
  exact ⟨b, off, e, hb, hc⟩

/-- a slice of ints that the call itself has made -/
theorem ElemI.own {E : TypeId} {W : World} {b0 base : Nat} {S : Nat → Prop} {v : Value} {l : List Int} (h : W.ownsRow b0 E 1 v l.length (l.map (Value.int .i64))) (hm : l.length ≤ maxLen) (hS : ∀ b, b0 ≤ b → S b) : ElemI E W base S v l := by
  obtain ⟨h1, h2⟩ := h
  rcases h2 with ⟨rfl, h0⟩ | ⟨g, cap, cur, rfl, hg, hh, hnc, hcm, hsz, htk⟩
  · exact ⟨none, 0, 0, rfl, h0, by unfold maxLen; omega, fun j hj => by omega⟩
  · refine ⟨_, _, cap, rfl, rfl, hm, fun j hj => ⟨g, 0, rfl, hS g hg, (Array.getElem?_eq_some_iff.1 hh).1, .inr ⟨cur, _, hh⟩, ?_⟩⟩
    rw [Nat.zero_add]
    have := World.ownsRow.cellAt (w := W) (base := b0) (e := E) (size := 1) (g := g) (n := l.length) (cap := cap) (xs := l.map (Value.int .i64)) ⟨h1, .inr ⟨g, cap, cur, rfl, hg, hh, hnc, hcm, hsz, htk⟩⟩ j (by omega)
    rw [this, List.getElem?_map, List.getElem?_eq_getElem hj]; rfl

/-- an old slice of ints -/
theorem ElemI.old {E : TypeId} {W : World} {base : Nat} {S : Nat → Prop} {a : Option Addr} {n cap : Nat} {l : List Int} (hn : l.length = n) (hm : n ≤ maxLen) (h : ∀ j, j < l.length → ∃ b off, a = some ⟨b, off, none⟩ ∧ b < base ∧ b < W.heap.size ∧ W.cell? ⟨b, off + j, none⟩ = some (.int .i64 (l[j]?.getD 0))) (hS : ∀ b, b < base → S b) :
    ElemI E W base S (.slice a n cap) l :=
  ⟨a, n, cap, rfl, hn, hm, fun j hj => by obtain ⟨b, off, e, hb, hs, hc⟩ := h j hj; exact ⟨b, off, e, hS b hb, hs, .inl hb, hc⟩⟩

theorem ownsRow_slice {W : World} {base : Nat} {e : TypeId} {size : Nat} {v : Value} {n : Nat} {xs : List Value} (h : W.ownsRow base e size v n xs) : ∃ a cap, v = .slice a n cap := by
  rcases h.2 with ⟨rfl, rfl⟩ | ⟨g, cap, cur, rfl, _⟩
  · exact ⟨_, _, rfl⟩
  · exact ⟨_, _, rfl⟩

/-- a slice of slices of ints: its own row is of type T, made since base; its elements are as above -/
def RowsO (E T : TypeId) (W : World) (base : Nat) (S : Nat → Prop) (v : Value) (ls : List (List Int)) : Prop :=
  ∃ vs, W.ownsRow base T 1 v ls.length vs ∧ (∀ k, v.ownBlock = some k → S k) ∧ ∀ j (hj : j < ls.length), ∃ u, vs[j]? = some u ∧ ElemI E W base S u ls[j]

theorem RowsO.nil (E T : TypeId) (W : World) (base : Nat) (S : Nat → Prop) : RowsO E T W base S (.slice none 0 0) [] :=
  ⟨[], World.ownsRow_nil _ _ _ _, fun k hk => by simp [Value.ownBlock] at hk, fun j hj => by simp at hj⟩

theorem RowsO.keep {E T : TypeId} {W W' : World} {base : Nat} {S : Nat → Prop} {v : Value} {ls : List (List Int)} (h : RowsO E T W base S v ls) (hk : Keep S W W') : RowsO E T W' base S v ls := by
  obtain ⟨vs, ho, hg, he⟩ := h
  refine ⟨vs, ⟨ho.1, ?_⟩, hg, fun j hj => ?_⟩
  · rcases ho.2 with hn | ⟨g, cap, cur, rfl, hb, hgg, rest⟩
    · exact .inl hn
    · exact .inr ⟨g, cap, cur, rfl, hb, (hk.block g (Array.getElem?_eq_some_iff.1 hgg).1 (hg g rfl)).trans hgg, rest⟩
  · obtain ⟨u, hu, hel⟩ := he j hj
    exact ⟨u, hu, hel.keep hk fun b hS _ _ => hS⟩

theorem RowsO.free {E T : TypeId} {W : World} {base : Nat} {S : Nat → Prop} {v : Value} {ls : List (List Int)} (h : RowsO E T W base S v ls) : RowsO E T W base (fun _ => True) v ls := by
  obtain ⟨vs, ho, hg, he⟩ := h
  refine ⟨vs, ho, fun _ _ => trivial, fun j hj => ?_⟩
  obtain ⟨u, hu, a, n, cap, e, hn, hm, hel⟩ := he j hj
  refine ⟨u, hu, a, n, cap, e, hn, hm, fun i hi => ?_⟩
  obtain ⟨b, off, e, _, rest⟩ := hel i hi
  exact ⟨b, off, e, trivial, rest⟩

/-- behind an append of one element -/
theorem RowsO.snoc {E T : TypeId} (hET : E ≠ T) {W w1 w2 : World} {base : Nat} {S : Nat → Prop} {v v' u : Value} {ls : List (List Int)} {l : List Int} {vs : List Value}
    (ho : W.ownsRow base T 1 v ls.length vs) (he : ∀ j (hj : j < ls.length), ∃ u, vs[j]? = some u ∧ ElemI E W base S u ls[j]) (hu : ElemI E W base S u l)
    (hW1 : Below W.heap.size W w1) (hg : w1.grownBy w2 v.ownBlock) (ho' : w2.ownsRow base T 1 v' (ls.length + 1) (vs ++ [u])) (hS' : ∀ k, v'.ownBlock = some k → S k) : RowsO E T w2 base S v' (ls ++ [l]) := by
  have hlen : vs.length = ls.length := by have := ho.1; omega
  have hgb : ∀ b, (b < base ∨ ∃ c f, W.heap[b]? = some (.cells c E f)) → b < W.heap.size → w2.heap[b]? = W.heap[b]? := by
    intro b hty hb
    refine (hg.block b (Nat.lt_of_lt_of_le hb hW1.size) ?_).trans (hW1.block b hb)
    rcases ho.2 with ⟨rfl, _⟩ | ⟨g, cap, cur, rfl, hbg, hgg, _⟩
    · simp [Value.ownBlock]
    · intro e
      obtain rfl : b = g := by simpa [Value.ownBlock] using e
      rcases hty with h | ⟨c, f, h⟩
      · omega
      · rw [h] at hgg; cases hgg; exact hET rfl
  have hel : ∀ u l, ElemI E W base S u l → ElemI E w2 base S u l := by
    intro u l h
    refine h.keep (T := fun b => b < W.heap.size ∧ (b < base ∨ ∃ c f, W.heap[b]? = some (.cells c E f))) ⟨hg.os.trans hW1.os, hg.tape.trans hW1.tape, hg.output.trans hW1.output, Nat.le_trans hW1.size hg.size, fun k hk hT => hgb k hT.2 hk⟩ fun b _ hb hty => ⟨hb, hty⟩
  refine ⟨vs ++ [u], by simpa using ho', hS', fun j hj => ?_⟩
  by_cases e : j < ls.length
  · obtain ⟨u', hu', hel'⟩ := he j e
    refine ⟨u', by rw [List.getElem?_append_left (by omega)]; exact hu', ?_⟩
    rw [List.getElem_append_left e]
    exact hel _ _ hel'
  · have : j = ls.length := by simp at hj; omega
    subst this
    refine ⟨u, by rw [List.getElem?_append_right (by omega), hlen]; simp, ?_⟩
    simp only [List.getElem_append_right (Nat.le_refl _), Nat.sub_self, List.getElem_cons_zero]
    exact hel _ _ hu

/-- what such a slice reads as -/
theorem RowsO.reads {E T : TypeId} {W : World} {base : Nat} {S : Nat → Prop} {v : Value} {ls : List (List Int)} (h : RowsO E T W base S v ls) : ∃ a cap, v = .slice a ls.length cap ∧ ls.length ≤ maxLen ∧ RowsAt W a ls ∧ (a = none → ls = []) := by
  obtain ⟨vs, ho, hg, he⟩ := h
  rcases ho.2 with ⟨rfl, h0⟩ | ⟨g, cap, cur, rfl, hbg, hgg, hnc, hcm, hsz, htk⟩
  · have : ls = [] := List.eq_nil_of_length_eq_zero h0
    subst this
    exact ⟨none, 0, rfl, by simp, fun j hj => by simp at hj, fun _ => rfl⟩
  · refine ⟨_, cap, rfl, by omega, fun j hj => ?_, fun h => by cases h⟩
    obtain ⟨u, hu, hel⟩ := he j hj
    have hc := World.ownsRow.cellAt (w := W) (base := base) (e := T) (size := 1) (g := g) (n := ls.length) (cap := cap) (xs := vs) ⟨ho.1, .inr ⟨g, cap, cur, rfl, hbg, hgg, hnc, hcm, hsz, htk⟩⟩ j (by omega)
    obtain ⟨a', n', cap', rfl, h1, h2, h3⟩ := id hel
    obtain ⟨h1, h2, h3⟩ := hel.ints
    exact ⟨g, 0, a', n', cap', rfl, (Array.getElem?_eq_some_iff.1 hgg).1, by rw [Nat.zero_add, hc, hu], h1, h2, h3⟩
end Go.Proofs.Ytfipebkhomppmaa

/- Walks and plain laws for FaultTextsRow, part 1. -/
import Derived.Test.YtddcamcdjkiadaaGreatDoorRows
import Derived.WalkKit
import Derived.BigQuiet
import Derived.Deep.QuietTactic
import Derived.Shelf.Abstract
import Derived.Deep.OwnRows
import Derived.RangeFuncNested
import Derived.RangeFuncBound
import Derived.RangeFuncCalls
import Derived.RangeFuncLeaves
import Derived.Shelf.RegionOpen
import Derived.OwnWalkIn
import Derived.TacticsInMore
import Derived.LoopNIn
import Derived.LoopIn
import Derived.Laws.EntriesVeiled
import Derived.Laws.AppendOwnNone
import Derived.Test.YtddcamcdjkiadaaGreatDoorShelf
import Derived.Shelf.Strings.Builder1
import Derived.BigRegion
import Derived.Deep.RegionHeld3
import Derived.Lib.SliceRun
namespace Go.Proofs.YtddcamcdjkiadaaGreatDoor
open Go.RowKit
set_option linter.unusedVariables false

def Stop (P : Prop) : Prop := P
theorem Stop.of {P : Prop} (h : Stop P) : P := h
theorem Stop.go {P : Prop} (h : P) : Stop P := h
theorem hid {p : Prop} (h : p) : Hid p := h

def IntsAt (w : World) (a : Option Addr) (l : List Int) : Prop :=
  ∀ j, j < l.length → ∃ b off, a = some ⟨b, off, none⟩ ∧ b < w.heap.size ∧ w.cell? ⟨b, off + j, none⟩ = some (.int .i64 (l[j]?.getD 0))

theorem IntsAt.below {w w' : World} {a : Option Addr} {l : List Int} (h : IntsAt w a l) (hb : Below w.heap.size w w') : IntsAt w' a l := by
  intro j hj
  obtain ⟨b, off, e, hlt, hc⟩ := h j hj
  exact ⟨b, off, e, Nat.lt_of_lt_of_le hlt hb.size, (hb.cell (p := ⟨b, off + j, none⟩) hlt).trans hc⟩

theorem chain {a b c : World} (h : Below a.heap.size a b) (k : Below b.heap.size b c) : Below a.heap.size a c := h.trans (k.mono h.size)

theorem below_drewN {B : Nat} {a w : World} (h : Below B a w) (n : Nat) : Below B a (w.drewN n) := ⟨h.os, h.tape, h.output, h.size, h.block⟩

theorem ret_int {k : IntKind} {a b : Int} (h : a = b) : Ending.returned (.int k a) = .returned (.int k b) := by rw [h]
theorem ret_bool {a b : Bool} (h : a = b) : Ending.returned (.bool a) = .returned (.bool b) := by rw [h]

def idxP {α : Type} (p : α → Bool) : List α → Nat → Int
  | [], _ => -1
  | x :: l, k => if p x then (k : Int) else idxP p l (k + 1)

theorem idxP_neg {α : Type} (p : α → Bool) : ∀ (l : List α) (k : Nat), (∀ x ∈ l, p x = false) → idxP p l k = -1
  | [], _, _ => rfl
  | x :: l, k, h => by
    unfold idxP
    rw [if_neg (by rw [h x (by simp)]; simp), idxP_neg p l (k + 1) (fun y hy => h y (by simp [hy]))]

theorem idxP_at {α : Type} (p : α → Bool) : ∀ (l : List α) (k j : Nat) (x : α), l[j]? = some x → p x = true → (∀ i y, i < j → l[i]? = some y → p y = false) → idxP p l k = ((k + j : Nat) : Int)
  | [], _, j, x, h, _, _ => by simp at h
  | y :: l, k, 0, x, h, hp, _ => by
    simp at h; subst h; unfold idxP; rw [if_pos hp]; simp
  | y :: l, k, j + 1, x, h, hp, hn => by
    have h0 := hn 0 y (by omega) rfl
    unfold idxP
    rw [if_neg (by rw [h0]; simp), idxP_at p l (k + 1) j x (by simpa using h) hp (fun i z hi hz => hn (i + 1) z (by omega) (by simpa using hz))]
    congr 1; omega

theorem idxP_ge {α : Type} (p : α → Bool) : ∀ (l : List α) (k : Nat), (0 ≤ idxP p l k) = (l.any p = true)
  | [], k => by simp [idxP]
  | x :: l, k => by
    unfold idxP
    by_cases h : p x = true
    · simp [h]
    · rw [if_neg h, idxP_ge p l (k + 1)]; simp [h]

def PredI (P : Program) (g : Nat) (lb : Array Value) (w : World) (p : Int → Bool) : Prop :=
  ∀ (x : Int) (W : World), Below w.heap.size w W → Calls P g (#[.int .i64 x] ++ lb) W fun e W' => e = .returned (.bool (p x)) ∧ Below W.heap.size W W'

theorem getD_lt {l : List Int} {k : Nat} (h : k < l.length) : l[k]? = some (l[k]?.getD 0) := by
  simp [List.getElem?_eq_getElem h]

structure Cel where
  row : List Int
  lo : Int
  hi : Int

def CelV (w : World) (v : Value) (c : Cel) : Prop :=
  ∃ ra n cap, v = .agg #[.slice ra n cap, .int .i64 c.lo, .int .i64 c.hi] ∧ c.row.length = n ∧ n ≤ maxLen ∧ IntsAt w ra c.row

theorem CelV.below {w w' : World} {v : Value} {c : Cel} (h : CelV w v c) (hb : Below w.heap.size w w') : CelV w' v c := by
  obtain ⟨ra, n, cap, e, hn, hm, hi⟩ := h
  exact ⟨ra, n, cap, e, hn, hm, hi.below hb⟩

def CellsAt (w : World) (a : Option Addr) (l : List Cel) : Prop :=
  ∀ j (hj : j < l.length), ∃ b off ra n cap, a = some ⟨b, off, none⟩ ∧ b < w.heap.size ∧
    w.cell? ⟨b, off + j * 3, none⟩ = some (.slice ra n cap) ∧ w.cell? ⟨b, off + j * 3 + 1, none⟩ = some (.int .i64 l[j].lo) ∧ w.cell? ⟨b, off + j * 3 + 2, none⟩ = some (.int .i64 l[j].hi) ∧
    l[j].row.length = n ∧ n ≤ maxLen ∧ IntsAt w ra l[j].row

theorem CellsAt.below {w w' : World} {a : Option Addr} {l : List Cel} (h : CellsAt w a l) (hb : Below w.heap.size w w') : CellsAt w' a l := by
  intro j hj
  obtain ⟨b, off, ra, n, cap, e, hlt, h0, h1, h2, hn, hm, hi⟩ := h j hj
  exact ⟨b, off, ra, n, cap, e, Nat.lt_of_lt_of_le hlt hb.size, (hb.cell (p := ⟨b, _, none⟩) hlt).trans h0, (hb.cell (p := ⟨b, _, none⟩) hlt).trans h1, (hb.cell (p := ⟨b, _, none⟩) hlt).trans h2, hn, hm, hi.below hb⟩

end Go.Proofs.YtddcamcdjkiadaaGreatDoor

namespace Go.Proofs.YtddcamcdjkiadaaGreatDoor
open Go.RowKit
set_option linter.unusedVariables false

structure Keep (S : Nat → Prop) (A B : World) : Prop where
  os : B.os = A.os
  tape : B.tape = A.tape
  output : B.output = A.output
  size : A.heap.size ≤ B.heap.size
  block : ∀ k, k < A.heap.size → S k → B.heap[k]? = A.heap[k]?

theorem Keep.refl (S : Nat → Prop) (A : World) : Keep S A A := ⟨rfl, rfl, rfl, Nat.le_refl _, fun _ _ _ => rfl⟩
theorem Keep.trans {S : Nat → Prop} {A B C : World} (h : Keep S A B) (k : Keep S B C) : Keep S A C :=
  ⟨k.os.trans h.os, k.tape.trans h.tape, k.output.trans h.output, Nat.le_trans h.size k.size, fun i hi hs => (k.block i (Nat.lt_of_lt_of_le hi h.size) hs).trans (h.block i hi hs)⟩
theorem Keep.drewN {S : Nat → Prop} {A B : World} (h : Keep S A B) (n : Nat) : Keep S A (B.drewN n) := ⟨h.os, h.tape, h.output, h.size, h.block⟩
theorem Keep.mono {S T : Nat → Prop} {A B : World} (h : Keep S A B) (hs : ∀ k, T k → S k) : Keep T A B := ⟨h.os, h.tape, h.output, h.size, fun k hk ht => h.block k hk (hs k ht)⟩
theorem Keep.of_below {S : Nat → Prop} {A B : World} (h : Below A.heap.size A B) : Keep S A B := ⟨h.os, h.tape, h.output, h.size, fun k hk _ => h.block k hk⟩
theorem Keep.grown {A B : World} {row : Option Nat} (h : A.grownBy B row) : Keep (fun k => some k ≠ row) A B := ⟨h.os, h.tape, h.output, h.size, fun k hk hs => h.block k hk hs⟩
theorem Keep.put (A : World) (l : Nat) (o : Obj) : Keep (fun k => k ≠ l) A (A.putObj l o) := (Keep.grown (grownBy_putObj' A l o)).mono fun k hk e => hk (by cases e; rfl)
theorem Keep.set (A : World) (b o : Nat) (v : Value) : Keep (fun k => k ≠ b) A (A.setCell ⟨b, o, none⟩ v) :=
  ⟨rfl, rfl, rfl, by simp [World.setCell], fun k _ hs => Below.heap_setCell _ _ _ _ hs⟩
theorem Keep.below {S : Nat → Prop} {A B w : World} {N : Nat} (h : Keep S A B) (hb : Below N w A) (hN : N ≤ A.heap.size) (hs : ∀ k, k < N → S k) : Below N w B :=
  hb.trans ⟨h.os, h.tape, h.output, h.size, fun k hk => h.block k (by omega) (hs k hk)⟩
theorem Keep.cell {S : Nat → Prop} {A B : World} (h : Keep S A B) {b o : Nat} {v : Value} (hc : A.cell? ⟨b, o, none⟩ = some v) (hs : S b) : B.cell? ⟨b, o, none⟩ = some v :=
  (World.cell?_of_block (a := ⟨b, o, none⟩) (h.block b (World.block_lt_of_cell? A ⟨b, o, none⟩ hc) hs)).trans hc

def IntRow (w : World) (E : TypeId) (b : Nat) (l : List Int) : Prop := w.heap[b]? = some (.cells (l.map (Value.int .i64)).toArray E (0, 0))
theorem IntRow.lt {w : World} {E : TypeId} {b : Nat} {l : List Int} (h : IntRow w E b l) : b < w.heap.size := (Array.getElem?_eq_some_iff.1 h).1
theorem IntRow.cell {w : World} {E : TypeId} {b : Nat} {l : List Int} (h : IntRow w E b l) {j : Nat} (hj : j < l.length) : w.cell? ⟨b, j, none⟩ = some (.int .i64 (l[j]?.getD 0)) := by
  simp [World.cell?, show w.heap[b]? = _ from h, hj]
theorem IntRow.frozen {w : World} {E : TypeId} {b : Nat} {l : List Int} (h : IntRow w E b l) (j : Nat) : w.frozen? ⟨b, j, none⟩ = false := by
  simp [World.frozen?, show w.heap[b]? = _ from h]
theorem IntRow.keep {w w' : World} {E : TypeId} {b : Nat} {l : List Int} (h : IntRow w E b l) (hk : w'.heap[b]? = w.heap[b]?) : IntRow w' E b l := hk.trans h
theorem IntRow.set {w : World} {E : TypeId} {b : Nat} {l : List Int} (h : IntRow w E b l) (j : Nat) (n : Int) : IntRow (w.setCell ⟨b, j, none⟩ (.int .i64 n)) E b (l.set j n) := by
  obtain ⟨hlt, hk⟩ := Array.getElem?_eq_some_iff.1 h
  unfold IntRow
  show (w.heap.modify b _)[b]? = _
  rw [Array.getElem?_eq_getElem (by rw [Array.size_modify]; exact hlt), Array.getElem_modify_self, hk]
  simp [List.map_set]
theorem IntRow.ints {w : World} {E : TypeId} {b : Nat} {l : List Int} (h : IntRow w E b l) : IntsAt w (some ⟨b, 0, none⟩) l :=
  fun j hj => ⟨b, 0, rfl, h.lt, by rw [Nat.zero_add]; exact h.cell hj⟩
end Go.Proofs.YtddcamcdjkiadaaGreatDoor

namespace Go.Proofs.YtddcamcdjkiadaaGreatDoor
open Go.RowKit
set_option linter.unusedVariables false

def RowsAt (w : World) (a : Option Addr) (ls : List (List Int)) : Prop :=
  ∀ j (hj : j < ls.length), ∃ b off ra n cap, a = some ⟨b, off, none⟩ ∧ b < w.heap.size ∧ w.cell? ⟨b, off + j, none⟩ = some (.slice ra n cap) ∧ ls[j].length = n ∧ n ≤ maxLen ∧ IntsAt w ra ls[j]
theorem RowsAt.below {w w' : World} {a : Option Addr} {l : List (List Int)} (h : RowsAt w a l) (hb : Below w.heap.size w w') : RowsAt w' a l := by
  intro j hj
  obtain ⟨b, off, ra, n, cap, e, hlt, h0, hn, hm, hi⟩ := h j hj
  exact ⟨b, off, ra, n, cap, e, Nat.lt_of_lt_of_le hlt hb.size, (hb.cell (p := ⟨b, _, none⟩) hlt).trans h0, hn, hm, hi.below hb⟩

def ElemI (E : TypeId) (W : World) (base : Nat) (S : Nat → Prop) (v : Value) (l : List Int) : Prop :=
  ∃ a n cap, v = .slice a n cap ∧ l.length = n ∧ n ≤ maxLen ∧ ∀ j, j < l.length → ∃ b off, a = some ⟨b, off, none⟩ ∧ S b ∧ b < W.heap.size ∧
    (b < base ∨ ∃ c f, W.heap[b]? = some (.cells c E f)) ∧ W.cell? ⟨b, off + j, none⟩ = some (.int .i64 (l[j]?.getD 0))

theorem ElemI.keep {E : TypeId} {W W' : World} {base : Nat} {S T : Nat → Prop} {v : Value} {l : List Int} (h : ElemI E W base S v l) (hk : Keep T W W')
    (hT : ∀ b, S b → b < W.heap.size → (b < base ∨ ∃ c f, W.heap[b]? = some (.cells c E f)) → T b) : ElemI E W' base S v l := by
  obtain ⟨a, n, cap, e, hn, hm, hj⟩ := h
  refine ⟨a, n, cap, e, hn, hm, fun j hlt => ?_⟩
  obtain ⟨b, off, e, hS, hb, hty, hc⟩ := hj j hlt
  have ht := hT b hS hb hty
  refine ⟨b, off, e, hS, Nat.lt_of_lt_of_le hb hk.size, ?_, hk.cell hc ht⟩
  rcases hty with h | ⟨c, f, h⟩
  · exact .inl h
  · exact .inr ⟨c, f, (hk.block b hb ht).trans h⟩

theorem ElemI.ints {E : TypeId} {W : World} {base : Nat} {S : Nat → Prop} {l : List Int} {a : Option Addr} {n cap : Nat} (h : ElemI E W base S (.slice a n cap) l) : l.length = n ∧ n ≤ maxLen ∧ IntsAt W a l := by
  obtain ⟨a', n', cap', e, hn, hm, hj⟩ := h
  cases e
  refine ⟨hn, hm, fun j hlt => ?_⟩
  obtain ⟨b, off, e, _, hb, _, hc⟩ := hj j hlt
  exact ⟨b, off, e, hb, hc⟩

theorem ElemI.own {E : TypeId} {W : World} {b0 base : Nat} {S : Nat → Prop} {v : Value} {l : List Int} (h : W.ownsRow b0 E 1 v l.length (l.map (Value.int .i64))) (hm : l.length ≤ maxLen) (hS : ∀ b, b0 ≤ b → S b) : ElemI E W base S v l := by
  obtain ⟨h1, h2⟩ := h
  rcases h2 with ⟨rfl, h0⟩ | ⟨g, cap, cur, rfl, hg, hh, hnc, hcm, hsz, htk⟩
  · exact ⟨none, 0, 0, rfl, h0, by unfold maxLen; omega, fun j hj => by omega⟩
  · refine ⟨_, _, cap, rfl, rfl, hm, fun j hj => ⟨g, 0, rfl, hS g hg, (Array.getElem?_eq_some_iff.1 hh).1, .inr ⟨cur, _, hh⟩, ?_⟩⟩
    rw [Nat.zero_add]
    have := World.ownsRow.cellAt (w := W) (base := b0) (e := E) (size := 1) (g := g) (n := l.length) (cap := cap) (xs := l.map (Value.int .i64)) ⟨h1, .inr ⟨g, cap, cur, rfl, hg, hh, hnc, hcm, hsz, htk⟩⟩ j (by omega)
    rw [this, List.getElem?_map, List.getElem?_eq_getElem hj]; rfl

theorem ownsRow_slice {W : World} {base : Nat} {e : TypeId} {size : Nat} {v : Value} {n : Nat} {xs : List Value} (h : W.ownsRow base e size v n xs) : ∃ a cap, v = .slice a n cap := by
  rcases h.2 with ⟨rfl, rfl⟩ | ⟨g, cap, cur, rfl, _⟩
  · exact ⟨_, _, rfl⟩
  · exact ⟨_, _, rfl⟩

def RowsO (E T : TypeId) (W : World) (base : Nat) (S : Nat → Prop) (v : Value) (ls : List (List Int)) : Prop :=
  ∃ vs, W.ownsRow base T 1 v ls.length vs ∧ (∀ k, v.ownBlock = some k → S k) ∧ ∀ j (hj : j < ls.length), ∃ u, vs[j]? = some u ∧ ElemI E W base S u ls[j]

theorem RowsO.nil (E T : TypeId) (W : World) (base : Nat) (S : Nat → Prop) : RowsO E T W base S (.slice none 0 0) [] :=
  ⟨[], World.ownsRow_nil _ _ _ _, fun k hk => by simp [Value.ownBlock] at hk, fun j hj => by simp at hj⟩

theorem RowsO.keep {E T : TypeId} {W W' : World} {base : Nat} {S : Nat → Prop} {v : Value} {ls : List (List Int)} (h : RowsO E T W base S v ls) (hk : Keep S W W') : RowsO E T W' base S v ls := by
  obtain ⟨vs, ho, hg, he⟩ := h
  refine ⟨vs, ⟨ho.1, ?_⟩, hg, fun j hj => ?_⟩
  · rcases ho.2 with hn | ⟨g, cap, cur, rfl, hb, hgg, rest⟩
    · exact .inl hn
    · exact .inr ⟨g, cap, cur, rfl, hb, (hk.block g (Array.getElem?_eq_some_iff.1 hgg).1 (hg g rfl)).trans hgg, rest⟩
  · obtain ⟨u, hu, hel⟩ := he j hj
    exact ⟨u, hu, hel.keep hk fun b hS _ _ => hS⟩

theorem RowsO.free {E T : TypeId} {W : World} {base : Nat} {S : Nat → Prop} {v : Value} {ls : List (List Int)} (h : RowsO E T W base S v ls) : RowsO E T W base (fun _ => True) v ls := by
  obtain ⟨vs, ho, hg, he⟩ := h
  refine ⟨vs, ho, fun _ _ => trivial, fun j hj => ?_⟩
  obtain ⟨u, hu, a, n, cap, e, hn, hm, hel⟩ := he j hj
  refine ⟨u, hu, a, n, cap, e, hn, hm, fun i hi => ?_⟩
  obtain ⟨b, off, e, _, rest⟩ := hel i hi
  exact ⟨b, off, e, trivial, rest⟩

theorem RowsO.snoc {E T : TypeId} (hET : E ≠ T) {W w1 w2 : World} {base : Nat} {S : Nat → Prop} {v v' u : Value} {ls : List (List Int)} {l : List Int} {vs : List Value}
    (ho : W.ownsRow base T 1 v ls.length vs) (he : ∀ j (hj : j < ls.length), ∃ u, vs[j]? = some u ∧ ElemI E W base S u ls[j]) (hu : ElemI E W base S u l)
    (hW1 : Below W.heap.size W w1) (hg : w1.grownBy w2 v.ownBlock) (ho' : w2.ownsRow base T 1 v' (ls.length + 1) (vs ++ [u])) (hS' : ∀ k, v'.ownBlock = some k → S k) : RowsO E T w2 base S v' (ls ++ [l]) := by
  have hlen : vs.length = ls.length := by have := ho.1; omega
  have hgb : ∀ b, (b < base ∨ ∃ c f, W.heap[b]? = some (.cells c E f)) → b < W.heap.size → w2.heap[b]? = W.heap[b]? := by
    intro b hty hb
    refine (hg.block b (Nat.lt_of_lt_of_le hb hW1.size) ?_).trans (hW1.block b hb)
    rcases ho.2 with ⟨rfl, _⟩ | ⟨g, cap, cur, rfl, hbg, hgg, _⟩
    · simp [Value.ownBlock]
    · intro e
      obtain rfl : b = g := by simpa [Value.ownBlock] using e
      rcases hty with h | ⟨c, f, h⟩
      · omega
      · rw [h] at hgg; cases hgg; exact hET rfl
  have hel : ∀ u l, ElemI E W base S u l → ElemI E w2 base S u l := by
    intro u l h
    refine h.keep (T := fun b => b < W.heap.size ∧ (b < base ∨ ∃ c f, W.heap[b]? = some (.cells c E f))) ⟨hg.os.trans hW1.os, hg.tape.trans hW1.tape, hg.output.trans hW1.output, Nat.le_trans hW1.size hg.size, fun k hk hT => hgb k hT.2 hk⟩ fun b _ hb hty => ⟨hb, hty⟩
  refine ⟨vs ++ [u], by simpa using ho', hS', fun j hj => ?_⟩
  by_cases e : j < ls.length
  · obtain ⟨u', hu', hel'⟩ := he j e
    refine ⟨u', by rw [List.getElem?_append_left (by omega)]; exact hu', ?_⟩
    rw [List.getElem_append_left e]
    exact hel _ _ hel'
  · have : j = ls.length := by simp at hj; omega
    subst this
    refine ⟨u, by rw [List.getElem?_append_right (by omega), hlen]; simp, ?_⟩
    simp only [List.getElem_append_right (Nat.le_refl _), Nat.sub_self, List.getElem_cons_zero]
    exact hel _ _ hu

theorem RowsO.reads {E T : TypeId} {W : World} {base : Nat} {S : Nat → Prop} {v : Value} {ls : List (List Int)} (h : RowsO E T W base S v ls) : ∃ a cap, v = .slice a ls.length cap ∧ ls.length ≤ maxLen ∧ RowsAt W a ls ∧ (a = none → ls = []) := by
  obtain ⟨vs, ho, hg, he⟩ := h
  rcases ho.2 with ⟨rfl, h0⟩ | ⟨g, cap, cur, rfl, hbg, hgg, hnc, hcm, hsz, htk⟩
  · have : ls = [] := List.eq_nil_of_length_eq_zero h0
    subst this
    exact ⟨none, 0, rfl, by simp, fun j hj => by simp at hj, fun _ => rfl⟩
  · refine ⟨_, cap, rfl, by omega, fun j hj => ?_, fun h => by cases h⟩
    obtain ⟨u, hu, hel⟩ := he j hj
    have hc := World.ownsRow.cellAt (w := W) (base := base) (e := T) (size := 1) (g := g) (n := ls.length) (cap := cap) (xs := vs) ⟨ho.1, .inr ⟨g, cap, cur, rfl, hbg, hgg, hnc, hcm, hsz, htk⟩⟩ j (by omega)
    obtain ⟨a', n', cap', rfl, h1, h2, h3⟩ := id hel
    obtain ⟨h1, h2, h3⟩ := hel.ints
    exact ⟨g, 0, a', n', cap', rfl, (Array.getElem?_eq_some_iff.1 hgg).1, by rw [Nat.zero_add, hc, hu], h1, h2, h3⟩
end Go.Proofs.YtddcamcdjkiadaaGreatDoor

namespace Go.Proofs.YtddcamcdjkiadaaGreatDoor
open Go.RowKit
set_option linter.unusedVariables false

def inB (n lo hi : Int) : Bool := decide (lo ≤ n) && decide (n ≤ hi)

theorem mwithin_c (n lo hi : Int) (w : World) : Calls Tryz.prog 67 #[.int .i64 n, .int .i64 lo, .int .i64 hi] w fun e w' => e = .returned (.bool (inB n lo hi)) ∧ w = w' := by
  by_cases h1 : lo ≤ n <;> by_cases h2 : n ≤ hi
  all_goals
    go_enter Tryz.func67, Tryz.ntmps67
    go_wp2
    go_ret
    exact ⟨ret_bool (by simp [inB, h1, h2]), rfl⟩

theorem indexI (w : World) (a : Option Addr) (n cap : Nat) (l : List Int) (hn : l.length = n) (hm : n ≤ maxLen) (H : IntsAt w a l) (g : Nat) (lb : Array Value) (p : Int → Bool)
    (eg : ∀ args w, (callFunc g args).run Tryz.prog w = .ok (.enter g args) w) (hp : PredI Tryz.prog g lb w p) :
    Calls Tryz.prog 112 #[.slice a n cap, .func (.func g) #[] lb] w fun e w' => e = .returned (.int .i64 (idxP p l 0)) ∧ Below w.heap.size w w' := by
  have HN := hid hn
  have HH := hid H
  have HP := hid hp
  clear hn H hp
  unfold maxLen at hm
  go_enter Tryz.func112, Tryz.ntmps112
  go_wp2
  go_loopw [8] (fun i wr => ∃ k : Nat, k ≤ n ∧ i = .int .i64 k ∧ Below w.heap.size w wr ∧ ∀ i y, i < k → l[i]? = some y → p y = false) (fun i _ => n - (intOf i).toNat)
  case atStart => exact ⟨0, Nat.zero_le _, rfl, Below.refl _ _, fun i y h => by omega⟩
  case round =>
    obtain ⟨k, hk, rfl, hb, hno⟩ := hrel
    have HNO := hid hno
    clear hno
    by_cases hlt : k < n
    · obtain ⟨b, off, rfl, hbs, hc⟩ := (HH.out.below hb) k (by rw [HN.out]; exact hlt)
      have hkk := getD_lt (l := l) (k := k) (by rw [HN.out]; exact hlt)
      have HK := hid hkk
      clear hkk
      cases hpx : p (l[k]?.getD 0)
      · go_wp2_with (refine (HP.out _ _ hb).mono ?_; rintro e w1 ⟨rfl, hb1⟩)
        refine ⟨⟨k + 1, by omega, by go_num, chain hb hb1, ?_⟩, by simp [intOf]; omega⟩
        intro i y hi hy
        by_cases e : i = k
        · subst e; rw [HK.out] at hy; cases hy; exact hpx
        · exact HNO.out i y (by omega) hy
      · go_wp2_with (refine (HP.out _ _ hb).mono ?_; rintro e w1 ⟨rfl, hb1⟩)
        go_ret
        refine ⟨ret_int ?_, chain hb hb1⟩
        rw [idxP_at p l 0 k _ HK.out hpx HNO.out]; simp
    · go_wp2
      go_ret
      refine ⟨ret_int ?_, hb⟩
      rw [idxP_neg]
      intro x hx
      obtain ⟨i, hi, e⟩ := List.getElem_of_mem hx
      exact HNO.out i x (by have := HN.out; omega) (by rw [List.getElem?_eq_getElem hi, e])

theorem containsI (w : World) (a : Option Addr) (n cap : Nat) (l : List Int) (hn : l.length = n) (hm : n ≤ maxLen) (H : IntsAt w a l) (g : Nat) (lb : Array Value) (p : Int → Bool)
    (eg : ∀ args w, (callFunc g args).run Tryz.prog w = .ok (.enter g args) w) (hp : PredI Tryz.prog g lb w p) :
    Calls Tryz.prog 79 #[.slice a n cap, .func (.func g) #[] lb] w fun e w' => e = .returned (.bool (l.any p)) ∧ Below w.heap.size w w' := by
  have HC := hid (indexI w a n cap l hn hm H g lb p eg hp)
  have HG := idxP_ge p l 0
  have HG' := hid HG
  clear hn H hp HG
  go_enter Tryz.func79, Tryz.ntmps79
  go_wp2_with (refine HC.out.mono ?_; rintro e w1 ⟨rfl, hb1⟩)
  go_ret
  refine ⟨ret_bool ?_, hb1⟩
  rw [Bool.eq_iff_iff, decide_eq_true_iff, HG'.out]

def SlV (w : World) (v : Value) (l : List Int) : Prop := ∃ ra n cap, v = .slice ra n cap ∧ l.length = n ∧ n ≤ maxLen ∧ IntsAt w ra l
theorem SlV.below {w w' : World} {v : Value} {l : List Int} (h : SlV w v l) (hb : Below w.heap.size w w') : SlV w' v l := by
  obtain ⟨ra, n, cap, e, hn, hm, hi⟩ := h
  exact ⟨ra, n, cap, e, hn, hm, hi.below hb⟩

def PredR (P : Program) (g : Nat) (lb : Array Value) (w : World) (p : List Int → Bool) : Prop :=
  ∀ (l : List Int) (v : Value) (W : World), Below w.heap.size w W → SlV W v l → Calls P g (#[v] ++ lb) W fun e W' => e = .returned (.bool (p l)) ∧ Below W.heap.size W W'

theorem indexR (w : World) (a : Option Addr) (n cap : Nat) (l : List (List Int)) (hn : l.length = n) (hm : n ≤ maxLen) (H : RowsAt w a l) (g : Nat) (lb : Array Value) (p : List Int → Bool)
    (eg : ∀ args w, (callFunc g args).run Tryz.prog w = .ok (.enter g args) w) (hp : PredR Tryz.prog g lb w p) :
    Calls Tryz.prog 134 #[.slice a n cap, .func (.func g) #[] lb] w fun e w' => e = .returned (.int .i64 (idxP p l 0)) ∧ Below w.heap.size w w' := by
  have HN := hid hn
  have HH := hid H
  have HP := hid hp
  clear hn H hp
  unfold maxLen at hm
  go_enter Tryz.func134, Tryz.ntmps134
  go_wp2
  go_loopw [8] (fun i wr => ∃ k : Nat, k ≤ n ∧ i = .int .i64 k ∧ Below w.heap.size w wr ∧ ∀ i y, i < k → l[i]? = some y → p y = false) (fun i _ => n - (intOf i).toNat)
  case atStart => exact ⟨0, Nat.zero_le _, rfl, Below.refl _ _, fun i y h => by omega⟩
  case round =>
    obtain ⟨k, hk, rfl, hb, hno⟩ := hrel
    have HNO := hid hno
    clear hno
    by_cases hlt : k < n
    · have hkl : k < l.length := by rw [HN.out]; exact hlt
      obtain ⟨b, off, ra, rn, rc, rfl, hbs, h0, hrn, hrm, hri⟩ := (HH.out.below hb) k hkl
      have HV := hid (show SlV wr (.slice ra rn rc) l[k] from ⟨ra, rn, rc, rfl, hrn, hrm, hri⟩)
      clear hrn hri
      have HK := hid (List.getElem?_eq_getElem hkl)
      cases hpx : p l[k]
      · go_wp2_with (refine (HP.out _ _ _ hb HV.out).mono ?_; rintro e w1 ⟨rfl, hb1⟩)
        refine ⟨⟨k + 1, by omega, by go_num, chain hb hb1, ?_⟩, by simp [intOf]; omega⟩
        intro i y hi hy
        by_cases e : i = k
        · subst e; rw [HK.out] at hy; cases hy; exact hpx
        · exact HNO.out i y (by omega) hy
      · go_wp2_with (refine (HP.out _ _ _ hb HV.out).mono ?_; rintro e w1 ⟨rfl, hb1⟩)
        go_ret
        refine ⟨ret_int ?_, chain hb hb1⟩
        rw [idxP_at p l 0 k _ HK.out hpx HNO.out]; simp
    · go_wp2
      go_ret
      refine ⟨ret_int ?_, hb⟩
      rw [idxP_neg]
      intro x hx
      obtain ⟨i, hi, e⟩ := List.getElem_of_mem hx
      exact HNO.out i x (by have := HN.out; omega) (by rw [List.getElem?_eq_getElem hi, e])

theorem containsR (w : World) (a : Option Addr) (n cap : Nat) (l : List (List Int)) (hn : l.length = n) (hm : n ≤ maxLen) (H : RowsAt w a l) (g : Nat) (lb : Array Value) (p : List Int → Bool)
    (eg : ∀ args w, (callFunc g args).run Tryz.prog w = .ok (.enter g args) w) (hp : PredR Tryz.prog g lb w p) :
    Calls Tryz.prog 101 #[.slice a n cap, .func (.func g) #[] lb] w fun e w' => e = .returned (.bool (l.any p)) ∧ Below w.heap.size w w' := by
  have HC := hid (indexR w a n cap l hn hm H g lb p eg hp)
  have HG := idxP_ge p l 0
  have HG' := hid HG
  clear hn H hp HG
  go_enter Tryz.func101, Tryz.ntmps101
  go_wp2_with (refine HC.out.mono ?_; rintro e w1 ⟨rfl, hb1⟩)
  go_ret
  refine ⟨ret_bool ?_, hb1⟩
  rw [Bool.eq_iff_iff, decide_eq_true_iff, HG'.out]

theorem allI1 (w : World) (b g : Nat) (lb : Array Value) (p : Int → Bool) (eg : ∀ args w, (callFunc g args).run Tryz.prog w = .ok (.enter g args) w) (hb : b < w.heap.size) (hc : w.cell? ⟨b, 0, none⟩ = some (.func (.func g) #[] lb)) (hp : PredI Tryz.prog g lb w p) :
    PredI Tryz.prog 139 #[.pointer (some ⟨b, 0, none⟩)] w (fun n => !p n) := by
  intro x W hbw
  have hc' : W.cell? ⟨b, 0, none⟩ = some (.func (.func g) #[] lb) := (hbw.cell (p := ⟨b, 0, none⟩) hb).trans hc
  have HP := hid (hp x W hbw)
  clear hp
  go_enter Tryz.func139, Tryz.ntmps139
  go_wp2_with (refine HP.out.mono ?_; rintro e w1 ⟨rfl, hb1⟩)
  go_ret
  exact ⟨rfl, hb1⟩

theorem allI_c (w : World) (a : Option Addr) (n cap : Nat) (l : List Int) (hn : l.length = n) (hm : n ≤ maxLen) (H : IntsAt w a l) (g : Nat) (lb : Array Value) (p : Int → Bool)
    (eg : ∀ args w, (callFunc g args).run Tryz.prog w = .ok (.enter g args) w) (hp : PredI Tryz.prog g lb w p) :
    Calls Tryz.prog 109 #[.slice a n cap, .func (.func g) #[] lb] w fun e w' => e = .returned (.bool (l.all p)) ∧ Below w.heap.size w w' := by
  have hb0 : Below w.heap.size w (w.alloc (.cells #[.func (.func g) #[] lb] 107)) := (Below.refl _ _).alloc (Nat.le_refl _) _
  have HC := hid (containsI (w.alloc (.cells #[.func (.func g) #[] lb] 107)) a n cap l hn hm (H.below hb0) 139 #[.pointer (some ⟨w.heap.size, 0, none⟩)] _ (enters_of Tryz.func139 (by kernel_rfl) rfl)
    (allI1 _ w.heap.size g lb p eg (by simp) (by rw [World.cell?_alloc_at _ _ _ _ rfl]; rfl) (fun x W h => hp x W (chain hb0 h))))
  clear hn H hp
  have hmf : ∀ (fn : Fn) (first cap : Array Value) (w : World), (Instr.makeFunc fn first cap).run Tryz.prog w = .ok (.func fn first cap) w := fun _ _ _ _ => rfl
  go_enter Tryz.func109, Tryz.ntmps109
  go_wp2_with (refine HC.out.mono ?_; rintro e w1 ⟨rfl, hb1⟩)
  go_ret
  exact ⟨ret_bool (by simp [List.all_eq_not_any_not]), chain hb0 hb1⟩

theorem allR1 (w : World) (b g : Nat) (lb : Array Value) (p : List Int → Bool) (eg : ∀ args w, (callFunc g args).run Tryz.prog w = .ok (.enter g args) w) (hb : b < w.heap.size) (hc : w.cell? ⟨b, 0, none⟩ = some (.func (.func g) #[] lb)) (hp : PredR Tryz.prog g lb w p) :
    PredR Tryz.prog 108 #[.pointer (some ⟨b, 0, none⟩)] w (fun n => !p n) := by
  intro x v W hbw hv
  have hc' : W.cell? ⟨b, 0, none⟩ = some (.func (.func g) #[] lb) := (hbw.cell (p := ⟨b, 0, none⟩) hb).trans hc
  have HP := hid (hp x v W hbw hv)
  obtain ⟨ra, rn, rc, rfl, _, _, _⟩ := hv
  clear hp
  go_enter Tryz.func108, Tryz.ntmps108
  go_wp2_with (refine HP.out.mono ?_; rintro e w1 ⟨rfl, hb1⟩)
  go_ret
  exact ⟨rfl, hb1⟩

theorem allR_c (w : World) (a : Option Addr) (n cap : Nat) (l : List (List Int)) (hn : l.length = n) (hm : n ≤ maxLen) (H : RowsAt w a l) (g : Nat) (lb : Array Value) (p : List Int → Bool)
    (eg : ∀ args w, (callFunc g args).run Tryz.prog w = .ok (.enter g args) w) (hp : PredR Tryz.prog g lb w p) :
    Calls Tryz.prog 68 #[.slice a n cap, .func (.func g) #[] lb] w fun e w' => e = .returned (.bool (l.all p)) ∧ Below w.heap.size w w' := by
  have hb0 : Below w.heap.size w (w.alloc (.cells #[.func (.func g) #[] lb] 103)) := (Below.refl _ _).alloc (Nat.le_refl _) _
  have HC := hid (containsR (w.alloc (.cells #[.func (.func g) #[] lb] 103)) a n cap l hn hm (H.below hb0) 108 #[.pointer (some ⟨w.heap.size, 0, none⟩)] _ (enters_of Tryz.func108 (by kernel_rfl) rfl)
    (allR1 _ w.heap.size g lb p eg (by simp) (by rw [World.cell?_alloc_at _ _ _ _ rfl]; rfl) (fun x v W h => hp x v W (chain hb0 h))))
  clear hn H hp
  have hmf : ∀ (fn : Fn) (first cap : Array Value) (w : World), (Instr.makeFunc fn first cap).run Tryz.prog w = .ok (.func fn first cap) w := fun _ _ _ _ => rfl
  go_enter Tryz.func68, Tryz.ntmps68
  go_wp2_with (refine HC.out.mono ?_; rintro e w1 ⟨rfl, hb1⟩)
  go_ret
  exact ⟨ret_bool (by simp [List.all_eq_not_any_not]), chain hb0 hb1⟩

abbrev Mask := List (List Int)
def okMRow (l : List Int) : Bool := inB l.length 1 10 && l.all (fun n => inB n (-1) 1)
def colsM (M : Mask) : Nat := (M[0]?.getD []).length
def okM (M : Mask) : Bool := inB M.length 1 6 && M.all (fun l => decide (l.length = colsM M) && okMRow l)

theorem row1 (w : World) : PredI Tryz.prog 110 #[] w (fun n => inB n (-1) 1) := by
  intro x W hb
  go_enter Tryz.func110, Tryz.ntmps110
  go_wp2_with (go_at_call 67; refine (mwithin_c _ _ _ _).mono ?_; rintro e w1 ⟨rfl, rfl⟩)
  go_ret
  exact ⟨rfl, Below.refl _ _⟩

theorem mrow_c (w : World) (a : Option Addr) (n cap : Nat) (l : List Int) (hn : l.length = n) (hm : n ≤ maxLen) (H : IntsAt w a l) :
    Calls Tryz.prog 70 #[.slice a n cap] w fun e w' => e = .returned (.bool (okMRow l)) ∧ Below w.heap.size w w' := by
  have HC := hid (allI_c w a n cap l hn hm H 110 #[] _ (enters_of Tryz.func110 (by kernel_rfl) rfl) (row1 w))
  have HN := hid hn
  clear hn H
  cases h : inB n 1 10
  all_goals
    have HQ := hid h
    go_enter Tryz.func70, Tryz.ntmps70
    go_wp2_with (first | (go_at_call 67; refine (mwithin_c _ _ _ _).mono ?_; rintro e w1 ⟨rfl, rfl⟩) | (refine HC.out.mono ?_; rintro e w1 ⟨rfl, hb1⟩))
    go_ret
    first
      | exact ⟨ret_bool (by unfold okMRow; rw [HN.out, HQ.out]; simp), hb1⟩
      | exact ⟨ret_bool (by unfold okMRow; rw [HN.out, HQ.out]; simp), Below.refl _ _⟩

theorem valid1 (w : World) (b : Nat) (a : Option Addr) (n cap : Nat) (M : Mask) (hn : M.length = n) (hm : n ≤ maxLen) (h0 : 0 < n) (H : RowsAt w a M) (hb : b < w.heap.size) (hc : w.cell? ⟨b, 0, none⟩ = some (.slice a n cap)) :
    PredR Tryz.prog 69 #[.pointer (some ⟨b, 0, none⟩)] w (fun l => decide (l.length = colsM M) && okMRow l) := by
  intro x v W hbw hv
  have hc' : W.cell? ⟨b, 0, none⟩ = some (.slice a n cap) := (hbw.cell (p := ⟨b, 0, none⟩) hb).trans hc
  obtain ⟨ra, rn, rc, rfl, hrn, hrm, hri⟩ := hv
  have HR := hid (mrow_c W ra rn rc x hrn hrm hri)
  obtain ⟨b', off, qa, qn, qc, rfl, hbs, hq0, hqn, hqm, hqi⟩ := (H.below hbw) 0 (by omega)
  have HCols : colsM M = qn := by unfold colsM; rw [List.getElem?_eq_getElem (by omega), ← hqn]; rfl
  have HCO := hid HCols
  have HRN := hid hrn
  unfold maxLen at hm
  simp only [Nat.add_zero] at hq0
  clear HCols hrn hri hqn hqi H hc
  by_cases h : rn = qn
  all_goals
    have hd : ((rn : Int) == (qn : Int)) = decide (rn = qn) := by rw [Bool.eq_iff_iff]; simp; omega
    have HQ := hid h
    first
      | rw [decide_eq_true h] at hd
      | rw [decide_eq_false h] at hd
    clear h
    go_enter Tryz.func69, Tryz.ntmps69
    go_wp2_with (go_at_call 70; refine HR.out.mono ?_; rintro e w1 ⟨rfl, hb1⟩)
    go_ret
    first
      | exact ⟨ret_bool (by rw [HRN.out, HCO.out, decide_eq_true HQ.out]; simp), hb1⟩
      | exact ⟨ret_bool (by rw [HRN.out, HCO.out, decide_eq_false HQ.out]; simp), Below.refl _ _⟩

theorem maskValid_c (w : World) (a : Option Addr) (n cap : Nat) (M : Mask) (hn : M.length = n) (hm : n ≤ maxLen) (H : RowsAt w a M) :
    Calls Tryz.prog 39 #[.slice a n cap] w fun e w' => e = .returned (.bool (okM M)) ∧ Below w.heap.size w w' := by
  have hb0 : Below w.heap.size w (w.alloc (.cells #[.slice a n cap] 35)) := (Below.refl _ _).alloc (Nat.le_refl _) _
  have hmf : ∀ (fn : Fn) (first cap : Array Value) (w : World), (Instr.makeFunc fn first cap).run Tryz.prog w = .ok (.func fn first cap) w := fun _ _ _ _ => rfl
  cases h : inB n 1 6
  · have HQ := hid h
    have HN := hid hn
    clear hn H
    go_enter Tryz.func39, Tryz.ntmps39
    go_wp2_with (go_at_call 67; refine (mwithin_c _ _ _ _).mono ?_; rintro e w1 ⟨rfl, rfl⟩)
    go_ret
    exact ⟨ret_bool (by unfold okM; rw [HN.out, HQ.out]; simp), hb0⟩
  · have h0 : 0 < n := by unfold inB at h; simp at h; omega
    have HC := hid (allR_c (w.alloc (.cells #[.slice a n cap] 35)) a n cap M hn hm (H.below hb0) 69 #[.pointer (some ⟨w.heap.size, 0, none⟩)] _ (enters_of Tryz.func69 (by kernel_rfl) rfl)
      (valid1 _ w.heap.size a n cap M hn hm h0 (H.below hb0) (by simp) (by rw [World.cell?_alloc_at _ _ _ _ rfl]; rfl)))
    have HQ := hid h
    have HN := hid hn
    clear hn H
    go_enter Tryz.func39, Tryz.ntmps39
    go_wp2_with (first | (go_at_call 67; refine (mwithin_c _ _ _ _).mono ?_; rintro e w1 ⟨rfl, rfl⟩) | (refine HC.out.mono ?_; rintro e w1 ⟨rfl, hb1⟩))
    go_ret
    exact ⟨ret_bool (by unfold okM; rw [HN.out, HQ.out]; simp), chain hb0 hb1⟩
end Go.Proofs.YtddcamcdjkiadaaGreatDoor

namespace Go.Proofs.YtddcamcdjkiadaaGreatDoor
open Go.RowKit
set_option linter.unusedVariables false

theorem run_append_nilsrc {P : Program} {w : World} (base : Nat) (t ty e : TypeId) (i : TypeInfo) (size c : Nat) (ht : P.underlying t = some (.slice e)) (hi : P.info? e = some i)
    (v : Value) (n : Nat) (xs : List Value) (hown : w.ownsRow base e size v n xs) : (Builtin.append_ #[t, t] ty #[v, .slice none 0 c]).run P w = .ok v w := by
  rcases hown.2 with ⟨rfl, rfl⟩ | ⟨g, cap, cur, rfl, _, _, hnc, _⟩
  · simp [Builtin.append_, run_underlying ht, sizeOf, typeInfo, hi, Builtin.lenOf, Builtin.firstCells]
  · simp [Builtin.append_, run_underlying ht, sizeOf, typeInfo, hi, Builtin.lenOf, Builtin.firstCells, hnc, storeCells]

theorem wpList_app {P : Program} (w : World) {ops : Array Oper} {rest : List Oper} {o : Oper} {a : Act} {Q : Exit → Act → World → Prop} (hgd : o.guard = none) (s x : Operand) (t : TypeId)
    (ho : o.op = .call { callee := .builtin .append, args := #[s, x], argTypes := #[t, t] })
    (base : Nat) (e : TypeId) (z : Value) (size bytes : Nat) (ht : P.underlying t = some (.slice e)) (hinfo : (P.info? e).map (fun i => (i.zero, i.size, i.bytes)) = some (some z, size, bytes))
    (hzs : z.cells.size = size) (hsz : 0 < size)
    (v : Value) (n : Nat) (xs : List Value) (hs : a.eval s = v) (hown : w.ownsRow base e size v n xs)
    (ao : Option Addr) (m c : Nat) (news : List Value) (hx : a.eval x = .slice ao m c) (hl : news.length = m * size) (hnone : ao = none → m = 0)
    (hnews : ∀ ad, ao = some ad → ∀ j u, news[j]? = some u → w.cell? (ad.add j) = some u) (h1 : ∀ u ∈ news, u.oneCell' = true)
    (h63 : n + m ≤ maxLen) (hbytes : (n + m) * bytes ≤ 140737488355328) (hbase : base ≤ w.heap.size)
    (h : ∀ a' c' w', w'.ownsRow base e size (.slice a' (n + m) c') (n + m) (xs ++ news) → w.grownBy w' v.ownBlock → wpList P ops Q rest (a.put o.dst (.slice a' (n + m) c')) w') : wpList P ops Q (o :: rest) a w := by
  obtain ⟨i, hi, hz, h2, h3⟩ := info_parts hinfo
  cases ao with
  | some ad =>
    refine wpList_append_own w hgd s x t ho base e i z size bytes ht hi hz h2 h3 hzs hsz v n xs hs hown ad m c news hx hl (hnews ad rfl) h1 h63 hbytes hbase ?_
    intro v' w' ho' hg _
    obtain ⟨a', c', rfl⟩ := ownsRow_slice ho'
    exact h a' c' w' ho' hg
  | none =>
    obtain rfl := hnone rfl
    have hnil : news = [] := List.eq_nil_of_length_eq_zero (by simpa using hl)
    subst hnil
    refine wpList_plain hgd fun K hK => ?_
    have hrun := run_append_nilsrc (P := P) (w := w) base t o.type e i size c ht hi v n xs hown
    obtain ⟨a', c', rfl⟩ := ownsRow_slice hown
    unfold Oper.wp
    simp [execOp, ho, resolve, invoke, builtin, hs, hx, hrun, Result.andThen]
    exact hK _ _ (h a' c' w (by simpa using hown) (World.grownBy.refl _ _))

theorem ints_news {w : World} {a : Option Addr} {l : List Int} (H : IntsAt w a l) : ∀ ad, a = some ad → ∀ j u, (l.map (Value.int .i64))[j]? = some u → w.cell? (ad.add j) = some u := by
  intro ad ha j u hu
  rw [List.getElem?_map] at hu
  obtain ⟨x, hx, rfl⟩ := Option.map_eq_some_iff.1 hu
  obtain ⟨hj, e⟩ := List.getElem?_eq_some_iff.1 hx
  obtain ⟨b, off, ea, hb, hc⟩ := H j hj
  rw [ha] at ea
  cases ea
  rw [Addr.add_lit, hc, hx]; rfl
theorem ints_none {w : World} {a : Option Addr} {l : List Int} (H : IntsAt w a l) : a = none → l.length = 0 := by
  intro ha
  rcases Nat.eq_zero_or_pos l.length with h | h
  · exact h
  · obtain ⟨_, _, e, _⟩ := H 0 h; rw [ha] at e; cases e
theorem one_news (w : World) (x : Value) (t : TypeId) : ∀ ad, (some ⟨w.heap.size, 0, none⟩ : Option Addr) = some ad → ∀ j u, [x][j]? = some u → (w.alloc (.cells #[x] t)).cell? (ad.add j) = some u := by
  intro ad e j u hu
  cases e
  match j, hu with
  | 0, hu =>
    simp at hu; subst hu
    rw [Addr.add_lit, World.cell?_alloc_at _ _ _ _ rfl]; rfl
theorem le_alloc (w : World) (o : Obj) : w.heap.size ≤ (w.alloc o).heap.size := by simp
theorem slice_oneCell (a : Option Addr) (n c : Nat) : ∀ u ∈ [Value.slice a n c], u.oneCell' = true := by intro u hu; simp at hu; subst hu; rfl
theorem no_none {α : Type} {a : α} {p : Prop} : some a = none → p := fun h => by cases h
theorem ElemI.own' {E : TypeId} {W : World} {b0 base : Nat} {S : Nat → Prop} {v : Value} {l : List Int} {n : Nat} {xs : List Value} (h : W.ownsRow b0 E 1 v n xs) (hx : xs = l.map (Value.int .i64)) (hn : l.length = n) (hm : n ≤ maxLen) (hS : ∀ b, b0 ≤ b → S b) : ElemI E W base S v l := by
  subst hx; subst hn; exact ElemI.own h hm hS
theorem cells_set {w : World} {b : Nat} {c : Array Value} {E : TypeId} {f : Nat × Nat} (h : w.heap[b]? = some (.cells c E f)) (j : Nat) (v : Value) :
    (w.setCell ⟨b, j, none⟩ v).heap[b]? = some (.cells (c.setIfInBounds j v) E f) := by
  obtain ⟨hlt, hk⟩ := Array.getElem?_eq_some_iff.1 h
  show (w.heap.modify b _)[b]? = _
  rw [Array.getElem?_eq_getElem (by rw [Array.size_modify]; exact hlt), Array.getElem_modify_self, hk]
  rfl
theorem below_set {B : Nat} {a w : World} (h : Below B a w) {b : Nat} (hb : B ≤ b) (o : Nat) (v : Value) : Below B a (w.setCell ⟨b, o, none⟩ v) := h.setCell (p := ⟨b, o, none⟩) hb v
end Go.Proofs.YtddcamcdjkiadaaGreatDoor

namespace Go.Proofs.YtddcamcdjkiadaaGreatDoor
open Go.RowKit
set_option linter.unusedVariables false

theorem info_int : (Tryz.prog.info? 3).map (fun i => (i.zero, i.size, i.bytes)) = some (some (.int .i64 0), 1, 8) := by kernel_rfl
theorem info_ints : (Tryz.prog.info? 30).map (fun i => (i.zero, i.size, i.bytes)) = some (some (.slice none 0 0), 1, 24) := by kernel_rfl

theorem listed1 (w : World) (b : Nat) (hb : b < w.heap.size) (hc : w.cell? ⟨b, 0, none⟩ = some (.int .i64 1000000)) : PredI Tryz.prog 162 #[.pointer (some ⟨b, 0, none⟩)] w (fun n => inB n (-1000000) 1000000) := by
  intro x W hbw
  have hc' : W.cell? ⟨b, 0, none⟩ = some (.int .i64 1000000) := (hbw.cell (p := ⟨b, 0, none⟩) hb).trans hc
  go_enter Tryz.func162, Tryz.ntmps162
  go_wp2_with (go_at_call 67; refine (mwithin_c _ _ _ _).mono ?_; rintro e w1 ⟨rfl, rfl⟩)
  go_ret
  exact ⟨rfl, Below.refl _ _⟩

def shownE (M : Mask) (x : List Int) : Int := if okM M = true then (if x.length = colsM M then (if x.all (fun n => inB n (-1000000) 1000000) = true then 0 else 7) else 9) else 1
def okShown (M : Mask) (x : List Int) : Bool := okM M && decide (x.length = colsM M) && x.all (fun n => inB n (-1000000) 1000000)
theorem okShown_iff (M : Mask) (x : List Int) : (shownE M x == 0) = okShown M x := by
  unfold shownE okShown
  cases okM M <;> simp
  by_cases h : x.length = colsM M <;> simp [h]
  split
  · rename_i h2; simp; exact h2
  · rename_i h2; simp; simpa using h2

theorem listed_c (w : World) (a : Option Addr) (n cap : Nat) (M : Mask) (hn : M.length = n) (hm : n ≤ maxLen) (H : RowsAt w a M) (a2 : Option Addr) (n2 cap2 : Nat) (x : List Int) (hn2 : x.length = n2) (hm2 : n2 ≤ maxLen) (H2 : IntsAt w a2 x)
    (g : Nat) (lb : Array Value) (eg : ∀ args w, (callFunc g args).run Tryz.prog w = .ok (.enter g args) w) (hg : okM M = true → ∀ W, Below w.heap.size w W → Calls Tryz.prog g lb W fun e W' => e = .returned (.int .i64 (colsM M)) ∧ W = W') :
    Calls Tryz.prog 154 #[.slice a n cap, .slice a2 n2 cap2, .func (.func g) #[] lb, .int .i64 1000000] w fun e w' => e = .returned (.int .i64 (shownE M x)) ∧ Below w.heap.size w w' := by
  have hb0 : Below w.heap.size w (w.alloc (.cells #[.int .i64 1000000] 3)) := (Below.refl _ _).alloc (Nat.le_refl _) _
  have hmf : ∀ (fn : Fn) (first cap : Array Value) (w : World), (Instr.makeFunc fn first cap).run Tryz.prog w = .ok (.func fn first cap) w := fun _ _ _ _ => rfl
  have HV := hid (maskValid_c (w.alloc (.cells #[.int .i64 1000000] 3)) a n cap M hn hm (H.below hb0))
  have HA := hid (fun (W : World) (hb : Below w.heap.size w W) (hs : w.heap.size < W.heap.size) (hc : W.cell? ⟨w.heap.size, 0, none⟩ = some (.int .i64 1000000)) => allI_c W a2 n2 cap2 x hn2 hm2 (H2.below hb) 162 #[.pointer (some ⟨w.heap.size, 0, none⟩)] _ (enters_of Tryz.func162 (by kernel_rfl) rfl) (listed1 W w.heap.size hs hc))
  have hcell : ∀ W, Below (w.alloc (.cells #[.int .i64 1000000] 3)).heap.size (w.alloc (.cells #[.int .i64 1000000] 3)) W → w.heap.size < W.heap.size ∧ W.cell? ⟨w.heap.size, 0, none⟩ = some (.int .i64 1000000) := fun W hb => by
    have h1 := hb.size
    simp at h1
    refine ⟨by omega, (hb.cell (p := ⟨w.heap.size, 0, none⟩) (by simp)).trans ?_⟩
    rw [World.cell?_alloc_at _ _ _ _ rfl]; rfl
  have HC := hid hcell
  have HN2 := hid hn2
  have HG := hid hg
  have HB := hid hb0
  clear hn H H2 hcell hg hn2 hb0
  cases hv : okM M
  · rw [hv] at HV
    have HE := hid hv
    clear hv
    go_enter Tryz.func154, Tryz.ntmps154
    go_wp2_with (go_at_call 39; refine HV.out.mono ?_; rintro e w1 ⟨rfl, hb1⟩)
    go_ret
    exact ⟨ret_int (by unfold shownE; rw [HE.out]; simp), chain HB.out hb1⟩
  · rw [hv] at HV
    have HE := hid hv
    have HG2 := hid (HG.out hv)
    clear hv HG
    by_cases h : n2 = colsM M
    · have hd : ((n2 : Int) != (colsM M : Int)) = false := by simp [h]
      have HQ := hid h
      clear h
      cases hx : x.all (fun n => inB n (-1000000) 1000000)
      all_goals
        rw [hx] at HA
        have HX := hid hx
        clear hx
        go_enter Tryz.func154, Tryz.ntmps154
        go_wp2_with (first | (go_at_call 39; refine HV.out.mono ?_; rintro e w1 ⟨rfl, hb1⟩) | (go_at_call 109; refine (HA.out _ (chain HB.out hb1) (HC.out _ hb1).1 (HC.out _ hb1).2).mono ?_; rintro e w2 ⟨rfl, hb2⟩) | (refine (HG2.out _ (chain HB.out hb1)).mono ?_; rintro e w3 ⟨rfl, rfl⟩))
        go_ret
        exact ⟨ret_int (by unfold shownE; rw [HE.out, if_pos rfl, if_pos (HN2.out.trans HQ.out), HX.out]; simp), chain (chain HB.out hb1) hb2⟩
    · have hd : ((n2 : Int) != (colsM M : Int)) = true := by simp; omega
      have HQ := hid h
      clear h
      go_enter Tryz.func154, Tryz.ntmps154
      go_wp2_with (first | (go_at_call 39; refine HV.out.mono ?_; rintro e w1 ⟨rfl, hb1⟩) | (refine (HG2.out _ (chain HB.out hb1)).mono ?_; rintro e w3 ⟨rfl, rfl⟩))
      go_ret
      exact ⟨ret_int (by unfold shownE; rw [HE.out, if_pos rfl, if_neg (by rw [HN2.out]; exact HQ.out)]), chain HB.out hb1⟩

theorem okM_len {M : Mask} (h : okM M = true) : 1 ≤ M.length ∧ M.length ≤ 6 ∧ 1 ≤ colsM M ∧ colsM M ≤ 10 ∧ ∀ l ∈ M, l.length = colsM M ∧ ∀ n ∈ l, -1 ≤ n ∧ n ≤ 1 := by
  unfold okM at h
  simp only [Bool.and_eq_true, List.all_eq_true, decide_eq_true_eq] at h
  obtain ⟨h1, h2⟩ := h
  simp [inB] at h1
  have hr : ∀ l ∈ M, l.length = colsM M ∧ (1 ≤ l.length ∧ l.length ≤ 10) ∧ ∀ n ∈ l, -1 ≤ n ∧ n ≤ 1 := by
    intro l hl
    obtain ⟨e, hrow⟩ := h2 l hl
    unfold okMRow at hrow
    simp only [Bool.and_eq_true, List.all_eq_true] at hrow
    refine ⟨e, ?_, fun n hn => ?_⟩
    · have := hrow.1; simp [inB] at this; omega
    · have := hrow.2 n hn; simpa [inB] using this
  have h0 : 0 < M.length := by omega
  have hc := hr M[0] (List.getElem_mem h0)
  refine ⟨by omega, by omega, by omega, by omega, fun l hl => ⟨(hr l hl).1, (hr l hl).2.2⟩⟩

theorem shown1 (w : World) (b : Nat) (a : Option Addr) (n cap : Nat) (M : Mask) (hn : M.length = n) (hm : n ≤ maxLen) (H : RowsAt w a M) (hb : b < w.heap.size) (hc : w.cell? ⟨b, 0, none⟩ = some (.slice a n cap)) (h0 : 0 < n) (W : World) (hbw : Below w.heap.size w W) :
    Calls Tryz.prog 155 #[.pointer (some ⟨b, 0, none⟩)] W fun e W' => e = .returned (.int .i64 (colsM M)) ∧ W = W' := by
  have hc' : W.cell? ⟨b, 0, none⟩ = some (.slice a n cap) := (hbw.cell (p := ⟨b, 0, none⟩) hb).trans hc
  obtain ⟨b', off, qa, qn, qc, rfl, hbs, hq0, hqn, hqm, hqi⟩ := (H.below hbw) 0 (by omega)
  have HCols : colsM M = qn := by unfold colsM; rw [List.getElem?_eq_getElem (by omega), ← hqn]; rfl
  have HCO := hid HCols
  unfold maxLen at hm
  simp only [Nat.add_zero] at hq0
  clear HCols hqn hqi H hc
  go_enter Tryz.func155, Tryz.ntmps155
  go_wp2
  go_ret
  exact ⟨ret_int (by rw [HCO.out]), rfl⟩

theorem mshown_c (w : World) (a : Option Addr) (n cap : Nat) (M : Mask) (hn : M.length = n) (hm : n ≤ maxLen) (H : RowsAt w a M) (a2 : Option Addr) (n2 cap2 : Nat) (x : List Int) (hn2 : x.length = n2) (hm2 : n2 ≤ maxLen) (H2 : IntsAt w a2 x) :
    Calls Tryz.prog 135 #[.slice a n cap, .slice a2 n2 cap2] w fun e w' => e = .returned (.int .i64 (shownE M x)) ∧ Below w.heap.size w w' := by
  have hb0 : Below w.heap.size w (w.alloc (.cells #[.slice a n cap] 35)) := (Below.refl _ _).alloc (Nat.le_refl _) _
  have hmf : ∀ (fn : Fn) (first cap : Array Value) (w : World), (Instr.makeFunc fn first cap).run Tryz.prog w = .ok (.func fn first cap) w := fun _ _ _ _ => rfl
  have HL := hid (listed_c (w.alloc (.cells #[.slice a n cap] 35)) a n cap M hn hm (H.below hb0) a2 n2 cap2 x hn2 hm2 (H2.below hb0) 155 #[.pointer (some ⟨w.heap.size, 0, none⟩)] (enters_of Tryz.func155 (by kernel_rfl) rfl)
    (fun hk W hb => by
      have := okM_len hk
      exact shown1 _ w.heap.size a n cap M hn hm (H.below hb0) (by simp) (by rw [World.cell?_alloc_at _ _ _ _ rfl]; rfl) (by omega) W hb))
  clear hn H hn2 H2
  go_enter Tryz.func135, Tryz.ntmps135
  go_wp2_with (go_at_call 154; refine HL.out.mono ?_; rintro e w1 ⟨rfl, hb1⟩)
  go_ret
  exact ⟨rfl, chain hb0 hb1⟩

theorem maskShown_c (w : World) (a : Option Addr) (n cap : Nat) (M : Mask) (hn : M.length = n) (hm : n ≤ maxLen) (H : RowsAt w a M) (a2 : Option Addr) (n2 cap2 : Nat) (x : List Int) (hn2 : x.length = n2) (hm2 : n2 ≤ maxLen) (H2 : IntsAt w a2 x) :
    Calls Tryz.prog 119 #[.slice a n cap, .slice a2 n2 cap2] w fun e w' => e = .returned (.bool (okShown M x)) ∧ Below w.heap.size w w' := by
  have HL := hid (mshown_c w a n cap M hn hm H a2 n2 cap2 x hn2 hm2 H2)
  have HE := hid (okShown_iff M x)
  clear hn H hn2 H2
  obtain ⟨E, hE⟩ : ∃ E, E = shownE M x := ⟨_, rfl⟩
  rw [← hE] at HL HE
  clear hE
  go_enter Tryz.func119, Tryz.ntmps119
  go_wp2_with (go_at_call 135; refine HL.out.mono ?_; rintro e w1 ⟨rfl, hb1⟩)
  go_ret
  exact ⟨ret_bool (by rw [← HE.out]), hb1⟩

def dotTo (row x : List Int) : Nat → Int
  | 0 => 0
  | k + 1 => wrap64 (dotTo row x k + wrap64 (row[k]?.getD 0 * x[k]?.getD 0))
def dotW (row x : List Int) : Int := dotTo row x row.length

theorem times_c (w : World) (a a2 : Option Addr) (n cap n2 cap2 : Nat) (row x : List Int) (hn : row.length = n) (hn2 : x.length = n2) (hle : n ≤ n2) (hm : n ≤ maxLen) (H : IntsAt w a row) (H2 : IntsAt w a2 x) :
    Calls Tryz.prog 136 #[.slice a n cap, .slice a2 n2 cap2] w fun e w' => e = .returned (.int .i64 (dotW row x)) ∧ w = w' := by
  have HN := hid hn
  have HN2 := hid hn2
  have HH := hid H
  have HH2 := hid H2
  clear hn hn2 H H2
  unfold maxLen at hm
  go_enter Tryz.func136, Tryz.ntmps136
  go_wp2
  go_loop [5, 10] (fun s i => ∃ k : Nat, k ≤ n ∧ i = .int .i64 k ∧ s = .int .i64 (dotTo row x k)) (fun _ i => n - (intOf i).toNat)
  case atStart => exact ⟨0, Nat.zero_le _, rfl, rfl⟩
  case round =>
    obtain ⟨k, hk, rfl, rfl⟩ := hrel
    by_cases hlt : k < n
    · obtain ⟨b, off, rfl, _, h1⟩ := HH.out k (by rw [HN.out]; exact hlt)
      obtain ⟨b2, off2, rfl, _, h2⟩ := HH2.out k (by rw [HN2.out]; omega)
      have h3 : k < n2 := by omega
      go_wp2
      go_round
      case rel => exact ⟨k + 1, by omega, by go_num, rfl⟩
      case measure => simp [intOf]; omega
    · have : k = n := by omega
      subst this
      go_wp2
      go_ret
      refine ⟨ret_int ?_, rfl⟩
      unfold dotW; rw [HN.out]

def readM (M : Mask) (x : List Int) : List Int := M.map (fun r => dotW r x)

theorem readM_take (M : Mask) (x : List Int) (k : Nat) (hk : k < M.length) : (readM (M.take (k + 1)) x) = readM (M.take k) x ++ [dotW M[k] x] := by
  unfold readM
  rw [List.take_succ_eq_append_getElem hk, List.map_append]; rfl

theorem one_int (x : Int) : ∀ u ∈ [Value.int .i64 x], u.oneCell' = true := by intro u hu; simp at hu; subst hu; rfl

set_option maxHeartbeats 2000000 in
theorem maskRead_c (w : World) (a : Option Addr) (n cap : Nat) (M : Mask) (hn : M.length = n) (hm : n ≤ maxLen) (H : RowsAt w a M) (a2 : Option Addr) (n2 cap2 : Nat) (x : List Int) (hn2 : x.length = n2) (hm2 : n2 ≤ maxLen) (H2 : IntsAt w a2 x) (hE : shownE M x = 0) :
    Calls Tryz.prog 104 #[.slice a n cap, .slice a2 n2 cap2] w fun e w' => ∃ v base, e = .returned (.tuple #[v, .int .i64 0]) ∧ w.heap.size ≤ base ∧ w'.ownsRow base 3 1 v n ((readM M x).map (Value.int .i64)) ∧ Below w.heap.size w w' := by
  have HS := hid (mshown_c w a n cap M hn hm H a2 n2 cap2 x hn2 hm2 H2)
  rw [hE] at HS
  have hok : okShown M x = true := by rw [← okShown_iff, hE]; rfl
  unfold okShown at hok
  simp only [Bool.and_eq_true, decide_eq_true_eq] at hok
  obtain ⟨⟨hM, hc⟩, _⟩ := hok
  obtain ⟨m1, m6, c1, c10, hrows⟩ := okM_len hM
  have hn6 : n ≤ 6 := by omega
  have HT := hid (fun (W : World) (hb : Below w.heap.size w W) (ra : Option Addr) (rn rc : Nat) (r : List Int) (hr : r ∈ M) (hrn : r.length = rn) (hri : IntsAt W ra r) => times_c W ra a2 rn rc n2 cap2 r x hrn hn2 (by have := (hrows r hr).1; omega) (by have := (hrows r hr).1; unfold maxLen; omega) hri (H2.below hb))
  have HN := hid hn
  have HH := hid H
  clear hn H hn2 H2 hrows hE hM hc m1 m6 c1 c10
  go_enter Tryz.func104, Tryz.ntmps104
  go_wp2_with (go_at_call 135; refine HS.out.mono ?_; rintro e w1 ⟨rfl, hb1⟩)
  go_loopw [7, 18] (fun v i wr => ∃ k : Nat, k ≤ n ∧ i = .int .i64 k ∧ wr.ownsRow w1.heap.size 3 1 v k ((readM (M.take k) x).map (Value.int .i64)) ∧ Below w1.heap.size w1 wr) (fun _ i _ => n - (intOf i).toNat)
  case atStart => exact ⟨0, Nat.zero_le _, rfl, World.ownsRow_nil _ _ _ _, Below.refl _ _⟩
  case round =>
    obtain ⟨k, hk, rfl, hown, hbk⟩ := hrel
    by_cases hlt : k < n
    · have hkM : k < M.length := by rw [HN.out]; exact hlt
      have hbw := chain hb1 hbk
      obtain ⟨b, off, ra, rn, rc, rfl, hbs, hq0, hrn, hrm, hri⟩ := (HH.out.below hbw) k hkM
      have HT1 := hid (HT.out wr hbw ra rn rc M[k] (List.getElem_mem hkM) hrn hri)
      obtain ⟨D, hD⟩ : ∃ D, D = dotW M[k] x := ⟨_, rfl⟩
      rw [← hD] at HT1
      have htk := readM_take M x k hkM
      rw [← hD] at htk
      have HTK := hid htk
      obtain ⟨va, vc, rfl⟩ := ownsRow_slice hown
      have HO := hid hown
      have M1 := hid (show k + 1 ≤ maxLen by unfold maxLen; omega)
      have M2 := hid (show (k + 1) * 8 ≤ 140737488355328 by omega)
      have M3 := hid (Nat.le_trans hbk.size (le_alloc wr (.cells #[.int .i64 D] 3)))
      clear hown htk hD hrn hri hkM
      go_wp2_with (first | (go_at_call 136; refine HT1.out.mono ?_; rintro e w2 ⟨rfl, rfl⟩) | (at_builtin; refine wpList_app _ rfl (.tmp 22) (.tmp 26) 30 rfl w1.heap.size 3 (.int .i64 0) 1 8 Tryz.underlying30 info_int rfl Nat.one_pos (.slice va k vc) k _ rfl (HO.out.alloc _) (some ⟨wr.heap.size, 0, none⟩) 1 1 [.int .i64 D] rfl rfl no_none (one_news wr _ _) (one_int _) M1.out M2.out M3.out ?_; refine Stop.of ?_))
      refine Stop.go ?_
      intro a3 c3 w3 own3 g3
      have hB3 : Below w1.heap.size w1 w3 := (hbk.alloc hbk.size _).grown g3 (Nat.le_trans hbk.size (le_alloc _ _)) (fun k hk => (HO.out.lt k hk).1)
      go_wp2
      refine ⟨⟨k + 1, by omega, by go_num, ?_, hB3⟩, by simp [intOf]; omega⟩
      rw [HTK.out]
      simpa using own3
    · obtain rfl : k = n := by omega
      go_wp2
      go_ret2
      refine ⟨_, w1.heap.size, rfl, hb1.size, ?_, chain hb1 hbk⟩
      rw [← HN.out, List.take_length] at hown
      rw [HN.out] at hown
      exact hown
end Go.Proofs.YtddcamcdjkiadaaGreatDoor

namespace Go.Proofs.YtddcamcdjkiadaaGreatDoor
open Go.RowKit Go.Shelf
set_option linter.unusedVariables false

theorem infoByte : (Tryz.prog.info? 5).map (fun i => (i.zero, i.size, i.bytes)) = some (some (.int .u8 0), 1, 1) := by kernel_rfl
theorem sizeBuilder : (Tryz.prog.info? 70).map (·.size) = some 2 := by kernel_rfl
theorem liesBuilder : liesAt Tryz.prog Tryz.prog.depth 70 (2 / Tryz.prog.cellsOf 70) 0 70 1 = true := by kernel_rfl

set_option maxHeartbeats 1000000 in
set_option maxRecDepth 100000 in
theorem copyCheck_used (b : Nat) (w : World) (h0 : w.cell? ⟨b, 0, none⟩ = some (.pointer (some ⟨b, 0, none⟩))) :
    Calls Tryz.prog 62 #[.pointer (some ⟨b, 0, none⟩)] w fun e w' => e = .returned (.tuple #[]) ∧ w' = w := by
  obtain ⟨j, hj, _⟩ := Option.map_eq_some_iff.1 sizeBuilder
  go_enter Tryz.func62, Tryz.ntmps62
  go_wp2
  rw [Lib.run_neq_ptr_same w _ Tryz.underlying67 hj]
  go_wp2
  go_end0
  exact ⟨rfl, rfl⟩

set_option maxHeartbeats 1000000 in
set_option maxRecDepth 100000 in
theorem copyCheck_fresh (b : Nat) (w : World) (h0 : w.cell? ⟨b, 0, none⟩ = some (.pointer none)) (hsh : w.shape? b = some (70, 2)) (hfz : w.frozen? ⟨b, 0, none⟩ = false) :
    Calls Tryz.prog 62 #[.pointer (some ⟨b, 0, none⟩)] w fun e w' => e = .returned (.tuple #[]) ∧ w' = w.setCell ⟨b, 0, none⟩ (.pointer (some ⟨b, 0, none⟩)) := by
  obtain ⟨j, hj, hjs⟩ := Option.map_eq_some_iff.1 sizeBuilder
  go_enter Tryz.func62, Tryz.ntmps62
  go_wp2
  rw [Lib.run_to_unsafe w ⟨b, 0, none⟩ Tryz.underlying67 Tryz.underlying127 hj (by rw [hjs]; decide) hsh (Nat.zero_lt_succ 1)]
  simp only [Result.andThen]
  rw [Oper.upon_value]
  go_wp2
  rw [run_callFunc_extern Tryz.func99 (by kernel_rfl) (by kernel_rfl) (by kernel_rfl) (e := Extern.AbiNoEscape.same) (by kernel_rfl)]
  rw [Lib.run_noEscape]
  simp only [Result.andThen]
  rw [Oper.upon_value]
  go_wp2
  rw [Lib.run_from_unsafe w ⟨b, 0, none⟩ Tryz.underlying127 Tryz.underlying67 hj hsh liesBuilder]
  simp only [Result.andThen]
  rw [Oper.upon_value]
  go_wp2
  go_end0
  exact ⟨rfl, rfl⟩

theorem copyCheck_c (B b : Nat) (bs : List Value) (w : World) (h : Lib.IsBuilder 70 5 B b bs w) :
    Calls Tryz.prog 62 #[.pointer (some ⟨b, 0, none⟩)] w fun e w' => e = .returned (.tuple #[]) ∧ (Lib.BuilderAt 70 5 B b (.pointer (some ⟨b, 0, none⟩)) bs w' ∧ Below B w w') := by
  rcases h with h | h
  · refine (copyCheck_fresh b w h.cell0 h.shape h.frozen0).mono ?_
    rintro e w' ⟨rfl, rfl⟩
    exact ⟨rfl, h.used _, (Below.refl B w).setCell (p := ⟨b, 0, none⟩) h.1 _⟩
  · refine (copyCheck_used b w h.cell0).mono ?_
    rintro e w' ⟨rfl, rfl⟩
    exact ⟨rfl, h, Below.refl B _⟩

set_option maxHeartbeats 2000000 in
set_option maxRecDepth 100000 in
theorem writeByte_c (B b : Nat) (bs : List Value) (c : Int) (w : World) (h : Lib.IsBuilder 70 5 B b bs w) (hlen : bs.length + 1 ≤ 140737488355328) (hBw : B ≤ w.heap.size) :
    Calls Tryz.prog 116 #[.pointer (some ⟨b, 0, none⟩), .int .u8 c] w fun e w' => e = .returned .nilIface ∧ (Lib.IsBuilder 70 5 B b (bs ++ [.int .u8 c]) w' ∧ Below B w w') := by
  obtain ⟨i0, hi, hz0, hz1, hz2⟩ := info_parts infoByte
  go_enter Tryz.func116, Tryz.ntmps116
  go_wp2_with (go_at_call 62; refine (copyCheck_c B b bs _ h).mono ?_)
  rintro e w1 ⟨rfl, h1, hb1⟩
  obtain ⟨hB, v, hbk, hown, hne⟩ := h1
  have c0 : w1.cell? ⟨b, 0, none⟩ = some (.pointer (some ⟨b, 0, none⟩)) := by rw [Lib.cell_of_heap hbk]; rfl
  have c1 : w1.cell? ⟨b, 1, none⟩ = some v := by rw [Lib.cell_of_heap hbk]; rfl
  go_wp2_with (at_builtin; refine wpList_append_own _ rfl _ _ 68 rfl B 5 i0 (.int .u8 0) 1 1 Tryz.underlying68 hi hz0 hz1 hz2 rfl (by decide) _ _ _ rfl (hown.alloc _) ⟨w1.heap.size, 0, none⟩ 1 1 [.int .u8 c] rfl rfl ?c1 ?c2 ?c3 ?c4 ?c5 ?_)
  case c1 =>
    intro j u hj
    match j, hj with
    | 0, hj => simp at hj; subst hj; simp [Addr.add]
  case c2 => intro u hu; simp at hu; subst hu; rfl
  case c3 => unfold maxLen; omega
  case c4 => omega
  case c5 => have := hb1.size; simp; omega
  intro v' w2 hown' hgrow _
  have hlt : b < w1.heap.size := by
    rcases Nat.lt_or_ge b w1.heap.size with h' | h'
    · exact h'
    · simp [Array.getElem?_eq_none h'] at hbk
  have hb2 : w2.heap[b]? = some (.cells #[.pointer (some ⟨b, 0, none⟩), v] 70 (0, 0)) := by
    rw [hgrow.block b (by simp; omega) (fun e => hne e.symm), Lib.alloc_old w1 _ b hlt]
    exact hbk
  have d0 : w2.cell? ⟨b, 0, none⟩ = some (.pointer (some ⟨b, 0, none⟩)) := by rw [Lib.cell_of_heap hb2]; rfl
  have d1 : w2.cell? ⟨b, 1, none⟩ = some v := by rw [Lib.cell_of_heap hb2]; rfl
  have f1 : w2.frozen? ⟨b, 1, none⟩ = false := Lib.frozen_of_heap hb2 1
  obtain ⟨g, cap, rfl⟩ : ∃ g cap, v' = .slice (some ⟨g, 0, none⟩) (bs.length + 1) cap := by
    rcases hown'.2 with ⟨_, h0⟩ | ⟨g, cap, cur, hv, _⟩
    · omega
    · exact ⟨g, cap, hv⟩
  go_wp2
  go_ret
  refine ⟨rfl, ?_, ?_⟩
  · exact .inr (Lib.BuilderAt.put (T := 70) (e := 5) hB hb2 (bs' := bs ++ [.int .u8 c]) (by simpa using hown') (by decide))
  · exact ((hb1.alloc (by have := hb1.size; omega) _).grown hgrow (by have := hb1.size; simp; omega) (fun k hk => (hown.lt k hk).1)).setCell (p := ⟨b, 1, none⟩) hB _
end Go.Proofs.YtddcamcdjkiadaaGreatDoor

namespace Go.Proofs.YtddcamcdjkiadaaGreatDoor
open Go.RowKit Go.Shelf
set_option linter.unusedVariables false

def sgnB (n : Int) : UInt8 := if n = -1 then 45 else if n = 0 then 46 else 43
def fmtM (M : Mask) : List UInt8 := M.flatMap (fun r => r.map sgnB ++ [10])
def textM (M : Mask) : List UInt8 := if okM M = true then fmtM M else []

theorem fmtM_take (M : Mask) (k : Nat) (hk : k < M.length) : fmtM (M.take (k + 1)) = fmtM (M.take k) ++ M[k].map sgnB ++ [10] := by
  unfold fmtM
  rw [List.take_succ_eq_append_getElem hk, List.flatMap_append]
  simp
theorem row_take (r : List Int) (j : Nat) (hj : j < r.length) : (r.take (j + 1)).map sgnB = (r.take j).map sgnB ++ [sgnB (r[j]?.getD 0)] := by
  rw [List.take_succ_eq_append_getElem hj, List.map_append, List.getElem?_eq_getElem hj]; rfl
theorem fmtM_length (M : Mask) (c : Nat) (h : ∀ r ∈ M, r.length ≤ c) : (fmtM M).length ≤ M.length * (c + 1) := by
  induction M with
  | nil => simp [fmtM]
  | cons r M ih =>
    have h1 := h r (by simp)
    have h2 := ih (fun s hs => h s (by simp [hs]))
    have e : fmtM (r :: M) = r.map sgnB ++ [10] ++ fmtM M := by simp [fmtM]
    rw [e]
    simp only [List.length_append, List.length_map, List.length_cons, List.length_nil]
    rw [Nat.add_mul]; omega

theorem byte_snoc (l : List UInt8) (c : UInt8) (n : Int) (h : (c.toNat : Int) = n) : Lib.byteCells l ++ [Value.int .u8 n] = Lib.byteCells (l ++ [c]) := by
  subst h; simp [Lib.byteCells]

set_option maxHeartbeats 4000000 in
set_option maxRecDepth 100000 in
theorem maskFormat_c (w : World) (a : Option Addr) (n cap : Nat) (M : Mask) (hn : M.length = n) (hm : n ≤ maxLen) (H : RowsAt w a M) :
    Calls Tryz.prog 84 #[.slice a n cap] w fun e w' => e = .returned (.string ⟨(textM M).toArray⟩) ∧ Below w.heap.size w w' := by
  have HV := hid (maskValid_c w a n cap M hn hm H)
  cases hv : okM M
  · rw [hv] at HV
    have HE := hid hv
    clear hv hn H
    go_enter Tryz.func84, Tryz.ntmps84
    go_wp2_with (go_at_call 39; refine HV.out.mono ?_; rintro e w1 ⟨rfl, hb1⟩)
    go_ret
    exact ⟨by unfold textM; rw [HE.out]; rfl, hb1⟩
  · rw [hv] at HV
    obtain ⟨m1, m6, c1, c10, hrows⟩ := okM_len hv
    have HE := hid hv
    have HN := hid hn
    have HH := hid H
    have HR := hid hrows
    have hn6 : n ≤ 6 := by omega
    clear hv hn H hrows c1 c10 m1 m6
    go_enter Tryz.func84, Tryz.ntmps84
    go_wp2_with (go_at_call 39; refine HV.out.mono ?_; rintro e w1 ⟨rfl, hb1⟩)
    go_loopw [13] (fun i wr => ∃ k : Nat, k ≤ n ∧ i = .int .i64 k ∧ Lib.IsBuilder 70 5 w1.heap.size w1.heap.size (Lib.byteCells (fmtM (M.take k))) wr ∧ Below w1.heap.size w1 wr) (fun i _ => n - (intOf i).toNat)
    case atStart => exact ⟨0, Nat.zero_le _, rfl, Lib.fresh_isBuilder _ _ w1, (Below.refl _ _).alloc (Nat.le_refl _) _⟩
    case round =>
      obtain ⟨k, hk, rfl, hI, hbk⟩ := hrel
      by_cases hlt : k < n
      · have hkM : k < M.length := by rw [HN.out]; exact hlt
        have hbw := chain hb1 hbk
        obtain ⟨b, off, ra, rn, rc, rfl, hbs, hq0w, hrn, hrm, hri⟩ := HH.out k hkM
        have hq0 : wr.cell? ⟨b, off + k, none⟩ = some (.slice ra rn rc) := (hbw.cell (p := ⟨b, off + k, none⟩) hbs).trans hq0w
        have hrow := HR.out M[k] (List.getElem_mem hkM)
        have htk := fmtM_take M k hkM
        have hlen := fmtM_length (M.take k) 10 (fun r hr => by have := (HR.out r (List.mem_of_mem_take hr)).1; have := (okM_len HE.out).2.2.2.1; omega)
        have hcol := (okM_len HE.out).2.2.2.1
        obtain ⟨r, hr⟩ : ∃ r, r = M[k] := ⟨_, rfl⟩
        obtain ⟨T, hT⟩ : ∃ T, T = fmtM (M.take k) := ⟨_, rfl⟩
        rw [← hr] at hrn hri hrow htk
        rw [← hT] at htk hlen hI
        have hT66 : T.length ≤ 66 := by
          rw [List.length_take] at hlen
          have : min k M.length ≤ 6 := by omega
          calc T.length ≤ min k M.length * (10 + 1) := hlen
            _ ≤ 6 * 11 := Nat.mul_le_mul this (Nat.le_refl _)
        have hr10 : rn ≤ 10 := by omega
        have HTK := hid htk
        have HRow := hid hrow
        have HRI := hid hri
        have HRN := hid hrn
        have hI' := hid hI
        obtain ⟨wk, hwk⟩ : ∃ wk, wk = wr := ⟨_, rfl⟩
        rw [← hwk] at hbk hbw hI' hq0 ⊢
        clear htk hrow hri hrn hlen hcol hT hkM hI hq0w hwk hr
        go_wp2
        go_loopw [19] (fun i wr => ∃ j : Nat, j ≤ rn ∧ i = .int .i64 j ∧ Lib.IsBuilder 70 5 w1.heap.size w1.heap.size (Lib.byteCells (T ++ (r.take j).map sgnB)) wr ∧ Below w1.heap.size w1 wr) (fun i _ => rn - (intOf i).toNat)
        case atStart => exact ⟨0, Nat.zero_le _, rfl, by simpa using hI'.out, hbk⟩
        case round =>
          obtain ⟨j, hj, rfl, hJ, hbj⟩ := hrel
          have hjM : (Lib.byteCells (T ++ (r.take j).map sgnB)).length ≤ 1000 := by
            rw [Lib.byteCells_length, List.length_append, List.length_map, List.length_take]; omega
          by_cases hjl : j < rn
          · have hjr : j < r.length := by rw [HRN.out]; exact hjl
            have hrt := row_take r j hjr
            have hv3 := HRow.out.2 r[j] (List.getElem_mem hjr)
            have hget : r[j]?.getD 0 = r[j] := by rw [List.getElem?_eq_getElem hjr]; rfl
            obtain ⟨b2, off2, rfl, hbs2, hc0⟩ := HRI.out j hjr
            have hc : wr.cell? ⟨b2, off2 + j, none⟩ = some (.int .i64 (r[j]?.getD 0)) := ((chain hb1 hbj).cell (p := ⟨b2, off2 + j, none⟩) hbs2).trans hc0
            rw [← hget] at hv3
            obtain ⟨V, hV⟩ : ∃ V, V = r[j]?.getD 0 := ⟨_, rfl⟩
            rw [← hV] at hc hrt hv3
            have HRT := hid hrt
            have hBJ := hid hJ
            have HM := hid hjM
            clear hrt hget hc0 hJ hjM hV hjr
            have h3 : V = -1 ∨ V = 0 ∨ V = 1 := by omega
            have HS := hid (hb1.size)
            have M1 := hid (show w1.heap.size ≤ wr.heap.size from hbj.size)
            rcases h3 with rfl | rfl | rfl
            all_goals
              clear hv3
              go_wp2_with (go_at_call 116; refine (writeByte_c w1.heap.size w1.heap.size _ _ wr hBJ.out (by have := HM.out; omega) M1.out).mono ?_; rintro e w2 ⟨rfl, hI2, hb2⟩)
              refine ⟨⟨j + 1, by omega, by go_num, ?_, hbj.trans hb2⟩, by simp [intOf]; omega⟩
              rw [HRT.out, ← List.append_assoc]
              rw [byte_snoc _ _ _ rfl] at hI2
              exact hI2
          · obtain rfl : j = rn := by omega
            have hall : r.take j = r := List.take_of_length_le (by have := HRN.out; omega)
            rw [hall] at hJ hjM
            have hBJ := hid hJ
            have HM := hid hjM
            have M1 := hid (show w1.heap.size ≤ wr.heap.size from hbj.size)
            clear hJ hjM hall
            go_wp2_with (go_at_call 116; refine (writeByte_c w1.heap.size w1.heap.size _ _ wr hBJ.out (by have := HM.out; omega) M1.out).mono ?_; rintro e w2 ⟨rfl, hI2, hb2⟩)
            refine ⟨⟨k + 1, by omega, by go_num, ?_, hbj.trans hb2⟩, by simp [intOf]; omega⟩
            rw [HTK.out]
            rw [show Lib.byteCells (T ++ r.map sgnB) ++ [Value.int .u8 10] = Lib.byteCells (T ++ r.map sgnB ++ [10]) from byte_snoc _ 10 10 rfl] at hI2
            exact hI2
      · obtain rfl : k = n := by omega
        have hall : M.take k = M := List.take_of_length_le (by have := HN.out; omega)
        rw [hall] at hI
        have hI' := hid hI
        have M1 := hid (show w1.heap.size ≤ wr.heap.size from hbk.size)
        clear hI hall
        go_wp2_with (go_at_call 34; refine (Tryz.Builder_String_any w1.heap.size w1.heap.size (fmtM M) wr hI'.out M1.out).mono ?_; rintro e w2 ⟨rfl, hb2⟩)
        go_ret
        exact ⟨by unfold textM; rw [if_pos HE.out]; rfl, chain hb1 (hbk.trans hb2)⟩
end Go.Proofs.YtddcamcdjkiadaaGreatDoor

namespace Go.Proofs.YtddcamcdjkiadaaGreatDoor
open Go.RowKit
set_option linter.unusedVariables false

structure Flt where
  kind : Int
  row : Int
  pixel : Int
deriving DecidableEq

def Flt.val (f : Flt) : Value := .agg #[.int .i64 f.kind, .int .i64 f.row, .int .i64 f.pixel]

def atM (M : Mask) (i j : Int) : Int := (M[i.toNat]?.getD [])[j.toNat]?.getD 0
def okF (M : Mask) (f : Flt) : Bool :=
  if f.kind = 0 then decide (f.row = 0) && decide (f.pixel = 0)
  else if f.kind = 1 then inB f.row 0 (M.length - 1) && decide (f.pixel = 0)
  else if f.kind = 2 then inB f.pixel 0 (colsM M - 1) && decide (f.row = 0)
  else if f.kind = 3 then inB f.row 0 (M.length - 1) && inB f.pixel 0 (colsM M - 1) && !decide (atM M f.row f.pixel = 0)
  else false

theorem fwithin_c (n lo hi : Int) (w : World) : Calls Tryz.prog 26 #[.int .i64 n, .int .i64 lo, .int .i64 hi] w fun e w' => e = .returned (.bool (inB n lo hi)) ∧ w = w' := by
  by_cases h1 : lo ≤ n <;> by_cases h2 : n ≤ hi
  all_goals
    go_enter Tryz.func26, Tryz.ntmps26
    go_wp2
    go_ret
    exact ⟨ret_bool (by simp [inB, h1, h2]), rfl⟩

theorem fvalid_c (w : World) (a : Option Addr) (n cap : Nat) (M : Mask) (hn : M.length = n) (H : RowsAt w a M) (hM : okM M = true) (f : Flt) :
    Calls Tryz.prog 115 #[.slice a n cap, f.val] w fun e w' => e = .returned (.bool (okF M f)) ∧ Below w.heap.size w w' := by
  obtain ⟨m1, m6, c1, c10, hrows⟩ := okM_len hM
  obtain ⟨kind, row, pixel⟩ := f
  unfold Flt.val
  simp only []
  have hb0 : Below w.heap.size w (w.alloc (.cells #[.int .i64 kind, .int .i64 row, .int .i64 pixel] 113)) := (Below.refl _ _).alloc (Nat.le_refl _) _
  obtain ⟨wf, hwf⟩ : ∃ wf, wf = w.alloc (.cells #[.int .i64 kind, .int .i64 row, .int .i64 pixel] 113) := ⟨_, rfl⟩
  have hf0 : wf.cell? ⟨w.heap.size, 0, none⟩ = some (.int .i64 kind) := by rw [hwf, World.cell?_alloc_at _ _ _ _ rfl]; rfl
  have hf1 : wf.cell? ⟨w.heap.size, 1, none⟩ = some (.int .i64 row) := by rw [hwf, World.cell?_alloc_at _ _ _ _ rfl]; rfl
  have hf2 : wf.cell? ⟨w.heap.size, 2, none⟩ = some (.int .i64 pixel) := by rw [hwf, World.cell?_alloc_at _ _ _ _ rfl]; rfl
  rw [← hwf] at hb0
  obtain ⟨b, off, qa, qn, qc, rfl, hbs, hq0, hqn, hqm, hqi⟩ := (H.below hb0) 0 (by omega)
  simp only [Nat.add_zero] at hq0
  have HCols : colsM M = qn := by unfold colsM; rw [List.getElem?_eq_getElem (by omega), ← hqn]; rfl
  rw [HCols] at c1 c10
  have HH := hid (H.below hb0)
  have HN := hid hn
  have HR := hid hrows
  have HB := hid hb0
  have hn6 : n ≤ 6 := by omega
  have hn1 : 1 ≤ n := by omega
  obtain ⟨br, hbr⟩ : ∃ br, br = inB row 0 ((n : Int) - 1) := ⟨_, rfl⟩
  obtain ⟨bp, hbp⟩ : ∃ bp, bp = inB pixel 0 ((qn : Int) - 1) := ⟨_, rfl⟩
  have hokF : okF M ⟨kind, row, pixel⟩ = (if kind = 0 then decide (row = 0) && decide (pixel = 0) else if kind = 1 then br && decide (pixel = 0) else if kind = 2 then bp && decide (row = 0) else if kind = 3 then br && bp && !decide (atM M row pixel = 0) else false) := by
    unfold okF; rw [HCols, hn, hbr, hbp]
  rw [hokF]
  have HCO := hid HCols
  have HBR := hid hbr
  have HBP := hid hbp
  clear hokF HCols hn H hrows hqn hqi hb0 hM m1 m6 hbr hbp
  have hn' : (1:Int) ≤ n := by omega
  have HW := hid (fun nq => show Below w.heap.size w (wf.drewN nq) from below_drewN HB.out nq)
  by_cases k0 : kind = 0
  · subst k0
    go_enter Tryz.func115, Tryz.ntmps115
    go_wp2
    rw [← hwf]
    clear hwf
    go_quiet (first | (go_at_call 26; exact Calls.quiet_of_same ((fwithin_c _ _ _ _).mono fun _ _ h => ⟨h.1, h.2.symm⟩)))
    rw [← HBR.out, ← HBP.out]
    go_wp2
    all_goals
      go_ret
      exact ⟨ret_bool (by simp [*]), HW.out _⟩
  · by_cases k1 : kind = 1
    · subst k1
      rw [if_neg (by decide), if_pos rfl]
      cases br
      · go_enter Tryz.func115, Tryz.ntmps115
        go_wp2
        rw [← hwf]
        clear hwf
        go_quiet (first | (go_at_call 26; exact Calls.quiet_of_same ((fwithin_c _ _ _ _).mono fun _ _ h => ⟨h.1, h.2.symm⟩)))
        rw [← HBR.out, ← HBP.out]
        go_wp2
        go_ret
        exact ⟨rfl, HW.out _⟩
      · go_enter Tryz.func115, Tryz.ntmps115
        go_wp2
        rw [← hwf]
        clear hwf
        go_quiet (first | (go_at_call 26; exact Calls.quiet_of_same ((fwithin_c _ _ _ _).mono fun _ _ h => ⟨h.1, h.2.symm⟩)))
        rw [← HBR.out, ← HBP.out]
        go_wp2
        go_ret
        exact ⟨ret_bool (by rw [Bool.eq_iff_iff]; simp), HW.out _⟩
    · by_cases k2 : kind = 2
      · subst k2
        rw [if_neg (by decide), if_neg (by decide), if_pos rfl]
        cases bp
        · go_enter Tryz.func115, Tryz.ntmps115
          go_wp2
          rw [← hwf]
          clear hwf
          go_quiet (first | (go_at_call 26; exact Calls.quiet_of_same ((fwithin_c _ _ _ _).mono fun _ _ h => ⟨h.1, h.2.symm⟩)))
          rw [← HBR.out, ← HBP.out]
          go_wp2
          go_ret
          exact ⟨rfl, HW.out _⟩
        · go_enter Tryz.func115, Tryz.ntmps115
          go_wp2
          rw [← hwf]
          clear hwf
          go_quiet (first | (go_at_call 26; exact Calls.quiet_of_same ((fwithin_c _ _ _ _).mono fun _ _ h => ⟨h.1, h.2.symm⟩)))
          rw [← HBR.out, ← HBP.out]
          go_wp2
          go_ret
          exact ⟨ret_bool (by rw [Bool.eq_iff_iff]; simp), HW.out _⟩
      · by_cases k3 : kind = 3
        · subst k3
          rw [if_neg (by decide), if_neg (by decide), if_neg (by decide), if_pos rfl]
          cases br
          · go_enter Tryz.func115, Tryz.ntmps115
            go_wp2
            rw [← hwf]
            clear hwf
            go_quiet (first | (go_at_call 26; exact Calls.quiet_of_same ((fwithin_c _ _ _ _).mono fun _ _ h => ⟨h.1, h.2.symm⟩)))
            rw [← HBR.out, ← HBP.out]
            go_wp2
            go_quiet (fail)
            go_wp2
            go_ret
            exact ⟨rfl, below_drewN (HW.out _) _⟩
          · cases bp
            · go_enter Tryz.func115, Tryz.ntmps115
              go_wp2
              rw [← hwf]
              clear hwf
              go_quiet (first | (go_at_call 26; exact Calls.quiet_of_same ((fwithin_c _ _ _ _).mono fun _ _ h => ⟨h.1, h.2.symm⟩)))
              rw [← HBR.out, ← HBP.out]
              go_wp2
              go_quiet (fail)
              go_wp2
              go_ret
              exact ⟨rfl, below_drewN (HW.out _) _⟩
            · obtain ⟨i, rfl⟩ : ∃ i : Nat, row = i := ⟨row.toNat, by have := HBR.out.symm; unfold inB at this; simp at this; omega⟩
              obtain ⟨j, rfl⟩ : ∃ j : Nat, pixel = j := ⟨pixel.toNat, by have := HBP.out.symm; unfold inB at this; simp at this; omega⟩
              have hi : i < n := by have := HBR.out.symm; unfold inB at this; simp at this; omega
              have hj : j < qn := by have := HBP.out.symm; unfold inB at this; simp at this; omega
              have hiM : i < M.length := by rw [HN.out]; exact hi
              obtain ⟨b1, off1, ra, rn, rc, e1, hbs1, hri0, hrn, hrm, hrI⟩ := HH.out i hiM
              cases e1
              have hrl := (HR.out M[i] (List.getElem_mem hiM)).1
              have hjr : j < M[i].length := by rw [hrl, HCO.out]; exact hj
              obtain ⟨b2, off2, rfl, hbs2, hc2⟩ := hrI j hjr
              have hat : atM M i j = M[i][j]?.getD 0 := by unfold atM; simp [List.getElem?_eq_getElem hiM]
              have hjn : j < rn := by omega
              obtain ⟨V, hV⟩ : ∃ V, V = M[i][j]?.getD 0 := ⟨_, rfl⟩
              rw [← hV] at hat hc2
              rw [hat]
              have HCQ := hid hc2
              have hj2 : (j : Int) < qn := by omega
              clear hat hV hjr hrl hrI hrn hiM
              go_enter Tryz.func115, Tryz.ntmps115
              go_wp2
              rw [← hwf]
              clear hwf
              go_quiet (first | (go_at_call 26; exact Calls.quiet_of_same ((fwithin_c _ _ _ _).mono fun _ _ h => ⟨h.1, h.2.symm⟩)))
              rw [← HBR.out, ← HBP.out]
              go_wp2
              go_quiet (fail)
              go_wp2
              go_ret
              exact ⟨ret_bool (by rw [Bool.eq_iff_iff]; simp), below_drewN (HW.out _) _⟩
        · rw [if_neg k0, if_neg k1, if_neg k2, if_neg k3]
          have e0 : (kind == 0) = false := by simpa using k0
          have e1 : (kind == 1) = false := by simpa using k1
          have e2 : (kind == 2) = false := by simpa using k2
          have e3 : (kind == 3) = false := by simpa using k3
          clear k0 k1 k2 k3
          go_enter Tryz.func115, Tryz.ntmps115
          go_wp2
          rw [← hwf]
          clear hwf
          go_quiet (first | (go_at_call 26; exact Calls.quiet_of_same ((fwithin_c _ _ _ _).mono fun _ _ h => ⟨h.1, h.2.symm⟩)))
          rw [← HBR.out, ← HBP.out]
          go_wp2
          go_ret
          exact ⟨rfl, HW.out _⟩
end Go.Proofs.YtddcamcdjkiadaaGreatDoor

namespace Go.Proofs.YtddcamcdjkiadaaGreatDoor
open Go.RowKit
set_option linter.unusedVariables false

section
variable {P : Program} {ops : Array Oper} {Q : Exit → Act → World → Prop} {md : Region.Mode} {S : World → Prop}

theorem wpOp_inRound (l n : Nat) {i : Nat} {K : Act → World → Prop} {a : Act} {w : World} (hd : ∀ o, ops[i]? = some o → (∀ c, o.op ≠ .defer c)) (hq : ¬ LetsOut Q)
    (h : wpOp P ops Q i K a w) : wpOpIn (Fence.wide.inRound l) n P ops Q i K a w := by
  unfold wpOp at h
  unfold wpOpIn
  cases ho : ops[i]? with
  | none => simpa [ho] using h
  | some o =>
    simp only [ho] at h ⊢
    split
    · rename_i hw
      simp only [hw, if_true] at h
      have h := h.resolve_right (fun x => hq x.2)
      refine ⟨fun f _ => trivial, ?_⟩
      rw [Fence.inRound_round, Oper.semAt_some l a.eval o (hd o ho)]
      unfold Oper.wp at h
      generalize (execOp a.eval o).run P w = r at *
      cases r with
      | ok x w' =>
        cases x <;> simp only [Oper.upon, Oper.uponIn] at h ⊢ <;> first
          | exact h
          | exact ⟨fun h => by simp [Fence.wide] at h, CallsIn.inRound l (callsIn_wide.2 h)⟩
          | (refine ⟨fun h => by simp [Fence.wide] at h, fun c cs _ => ?_⟩
             obtain ⟨v, w'', hr, hs⟩ := h c cs
             exact ⟨v, w'', hr, (StepsIn.of_steps hs).mono fun m _ => fenced_wide P m⟩)
      | halt x w' => cases x <;> simp only [Oper.upon, Oper.uponIn] at h ⊢ <;> exact h
    · rename_i hw
      simp only [hw] at h
      exact ⟨fun f _ => trivial, h⟩

def AnyT (P : Program) (md : Region.Mode) (ops : Array Oper) (Q : Exit → Act → World → Prop) (T : Nat → World → Prop) : Nat → Array Bool → Act → World → Prop
  | 0, listed, a, w => Region.ready md ops listed = [] ∧ Q .normal a w
  | fuel + 1, listed, a, w =>
    (Region.ready md ops listed = [] → Q .normal a w) ∧
    ∀ j ∈ Region.ready md ops listed, wpOp P ops Q j (fun a' w' => T j w' ∧ AnyT P md ops Q T fuel (listed.setIfInBounds j true) a' w') a w

variable {T : Nat → World → Prop}

theorem AnyT.any : ∀ (fuel : Nat) (listed : Array Bool) (a : Act) (w : World), AnyT P md ops Q T fuel listed a w → wpAny P md ops Q fuel listed a w
  | 0, _, _, _, h => h
  | fuel + 1, _, _, _, h => ⟨h.1, fun i hi => wpOp_mono (fun a' w' h' => AnyT.any fuel _ a' w' h'.2) (h.2 i hi)⟩

theorem AnyT.inRound (l n : Nat) (hd : ∀ (i : Nat) o, ops[i]? = some o → (∀ c, o.op ≠ .defer c)) (hq : ¬ LetsOut Q) : ∀ (fuel : Nat) (listed : Array Bool) (a : Act) (w : World),
    AnyT P md ops Q T fuel listed a w → wpAnyIn (Fence.wide.inRound l) n P md ops Q fuel listed a w
  | 0, _, _, _, h => h
  | fuel + 1, _, _, _, h => ⟨h.1, fun i hi => wpOpIn_mono (fun a' w' h' => AnyT.inRound l n hd hq fuel _ a' w' h'.2) (wpOp_inRound l n (hd i) hq (h.2 i hi))⟩

theorem AnyT.first {i : Nat} {oi : Oper} {v : Value} (hi : ops[i]? = some oi) (hsel : ∀ (j : Nat) (o : Oper) cs b, ops[j]? = some o → o.op ≠ .select cs b)
    (hQ : ∀ c a w, Q (.panic c) (a.put oi.dst v) w → Q (.panic c) a w)
    (hT : ∀ (j : Nat) oj, ops[j]? = some oj → (∀ e ∈ oj.after, Region.binds md e = true → e.on ≠ i) → ∀ w, T j w → S w) (hTi : ∀ w, S w → T i w) :
    ∀ (fuel : Nat) (listed : Array Bool) (a : Act) (w : World),
      (∀ j oj, ops[j]? = some oj → j ≠ i → listed.getD j true = false → (∀ e ∈ oj.after, Region.binds md e = true → e.on ≠ i) → oi.apart ops oj = true) →
      i ∈ Region.ready md ops listed → YieldsIf P ops S oi v a → S w →
      AnyT P md ops Q T fuel (listed.setIfInBounds i true) (a.put oi.dst v) w → AnyT P md ops Q T (fuel + 1) listed a w := by
  intro fuel
  induction fuel with
  | zero =>
    intro listed a w _ hr hy hS H
    refine ⟨fun h => (by rw [h] at hr; cases hr), fun j hj => ?_⟩
    by_cases e : j = i
    · subst e; exact hy.wpOp hi hS ⟨hTi w hS, H⟩
    · have h0 := ready_mono hj e
      rw [H.1] at h0; cases h0
  | succ fuel ih =>
    intro listed a w hfree hr hy hS H
    refine ⟨fun h => (by rw [h] at hr; cases hr), fun j hj => ?_⟩
    by_cases e : j = i
    · subst e; exact hy.wpOp hi hS ⟨hTi w hS, H⟩
    · obtain ⟨hun, oj, hoj, hall⟩ := mem_ready.1 hj
      have hnot : ∀ x ∈ oj.after, Region.binds md x = true → x.on ≠ i := by
        intro x hx hb heq
        have h1 := hall x hx hb
        have h0 := (mem_ready.1 hr).1
        rw [heq] at h1
        rcases Nat.lt_or_ge i listed.size with hlt | hge
        · simp [hlt] at h0 h1; rw [h0] at h1; cases h1
        · simp [Array.getElem?_eq_none hge] at h1
      refine wpOp_mono (fun a' w' h3 => ?_) (wpOp_putIf hoj (hfree j oj hoj e hun hnot) (fun cs b => hsel i oi cs b hi) (fun cs b => hsel j oj cs b hoj) hQ hy (H.2 j (ready_mono hj e)))
      have hS' := hT j oj hoj hnot w' h3.2.1
      refine ⟨h3.2.1, ih (listed.setIfInBounds j true) a' w' ?_ (ready_mono hr (fun h => e h.symm)) h3.1 hS' ?_⟩
      · intro k ok hk hki hkun hno
        refine hfree k ok hk hki ?_ hno
        by_cases hjk : j = k
        · subst hjk; exact hun
        · rwa [getD_set_ne true hjk] at hkun
      · rw [Array.setIfInBounds_comm _ _ e]; exact h3.2.2

def waits (md : Region.Mode) (ops : Array Oper) (i j : Nat) : Bool := match ops[j]? with | some o => o.after.any (fun e => Region.binds md e && e.on == i) | none => true

theorem AnyT.take {i : Nat} {oi : Oper} {v : Value} {fuel : Nat} {listed : Array Bool} {a : Act} {w : World} (hi : ops[i]? = some oi)
    (hs : Region.noSelect ops = true) (hf : Region.free md ops listed i = true) (hr : (Region.ready md ops listed).contains i = true)
    (hQ : ∀ c a w, Q (.panic c) (a.put oi.dst v) w → Q (.panic c) a w)
    (hT : ∀ j, waits md ops i j = false → ∀ w, T j w → S w) (hTi : ∀ w, S w → T i w) (hy : YieldsIf P ops S oi v a) (hS : S w)
    (h : AnyT P md ops Q T fuel (listed.setIfInBounds i true) (a.put oi.dst v) w) : AnyT P md ops Q T (fuel + 1) listed a w :=
  AnyT.first hi (Region.noSelect_spec hs) hQ (fun j oj hj hno w hw => hT j (by
    unfold waits; rw [hj]
    simp only [Array.any_eq_false]
    intro k hk
    have := hno oj.after[k] (Array.getElem_mem hk)
    cases hb : Region.binds md oj.after[k] <;> simp [hb] at this ⊢
    exact this) w hw) hTi fuel listed a w (Region.free_spec hi hf) (by simpa using hr) hy hS h

theorem AnyT.takeW {i : Nat} {oi : Oper} {v : Value} {fuel : Nat} {listed : Array Bool} {a : Act} {w : World} {Wf : Nat → Bool} (hi : ops[i]? = some oi)
    (hs : Region.noSelect ops = true) (hf : Region.free md ops listed i = true) (hr : (Region.ready md ops listed).contains i = true)
    (hQ : ∀ c a w, Q (.panic c) (a.put oi.dst v) w → Q (.panic c) a w)
    (hW : (List.range ops.size).all (fun j => waits md ops i j || Wf j) = true) (hw : Region.wanted oi (yielded ops a.tmps) = true) (hy : ∀ w, S w → (execOp a.eval oi).run P w = .ok (.value v) w) (hS : S w)
    (h : AnyT P md ops Q (fun j w => Wf j = true → S w) fuel (listed.setIfInBounds i true) (a.put oi.dst v) w) : AnyT P md ops Q (fun j w => Wf j = true → S w) (fuel + 1) listed a w :=
  AnyT.take hi hs hf hr hQ (fun j hj w hT => hT (by
    by_cases e : j < ops.size
    · have := List.all_eq_true.1 hW j (List.mem_range.2 e)
      rw [hj] at this; simpa using this
    · unfold waits at hj; rw [Array.getElem?_eq_none (by omega)] at hj; cases hj)) (fun w hS _ => hS) (.inl ⟨hw, hy⟩) hS h

theorem AnyT.next {i : Nat} {o : Oper} {fuel : Nat} {listed : Array Bool} {a : Act} {w : World} (hr : Region.ready md ops listed = [i]) (ho : ops[i]? = some o)
    (h : wpOp P ops Q i (fun a' w' => T i w' ∧ AnyT P md ops Q T fuel (listed.setIfInBounds i true) a' w') a w) : AnyT P md ops Q T (fuel + 1) listed a w :=
  ⟨fun h0 => (by rw [hr] at h0; cases h0), fun j hj => by rw [hr] at hj; obtain rfl : j = i := (by simpa using hj); exact h⟩

theorem AnyT.done {listed : Array Bool} {a : Act} {w : World} (hr : Region.ready md ops listed = []) (h : Q .normal a w) : ∀ fuel, AnyT P md ops Q T fuel listed a w
  | 0 => ⟨hr, h⟩
  | _ + 1 => ⟨fun _ => h, by rw [hr]; simp⟩

theorem plain_region (T : Nat → World → Prop) {id : Nat} {a : Act} {w : World} (hm : P.follows .mixedOrders = true)
    (h : AnyT P .any ops Q T ops.size (Array.replicate ops.size false) a w.drew) : (Code.region id ops true).wp P Q a w :=
  wp_region_any hm (AnyT.any _ _ _ _ h)

def oneQ (K : Act → World → Prop) (Q : Exit → Act → World → Prop) : Exit → Act → World → Prop
  | .normal, a, w => K a w
  | e, a, w => Q e a w

theorem wpOp_of_list {i : Nat} {o : Oper} {K : Act → World → Prop} {a : Act} {w : World} (ho : ops[i]? = some o)
    (h : wpList P ops (oneQ K Q) [o] a w) : wpOp P ops Q i K a w := by
  unfold wpOp
  simp only [ho]
  unfold wpList at h
  split
  · rename_i hw
    simp only [hw, if_true] at h
    rcases h with h | ⟨h, hl⟩
    · refine .inl ?_
      unfold Oper.wp at h ⊢
      generalize (execOp a.eval o).run P w = r at *
      cases r with
      | ok x w' =>
        cases x <;> simp only [Oper.upon] at h ⊢ <;> first
          | exact h
          | exact Calls.mono h (fun e w'' he => by cases e <;> exact he)
      | halt x w' => cases x <;> simp only [Oper.upon] at h ⊢ <;> exact h
    · exact .inr ⟨h, hl⟩
  · rename_i hw
    simp only [hw] at h
    exact h
end
end Go.Proofs.YtddcamcdjkiadaaGreatDoor

namespace Go.Proofs.YtddcamcdjkiadaaGreatDoor
open Go.RowKit
set_option linter.unusedVariables false

def SpRow (w : World) (g : Nat) (l : List Int) : Prop := ∃ sp : List Value, w.heap[g]? = some (.cells (l.map (Value.int .i64) ++ sp).toArray 3 (0, 0))
theorem SpRow.lt {w : World} {g : Nat} {l : List Int} (h : SpRow w g l) : g < w.heap.size := by obtain ⟨sp, h⟩ := h; exact (Array.getElem?_eq_some_iff.1 h).1
theorem SpRow.cell {w : World} {g : Nat} {l : List Int} (h : SpRow w g l) {j : Nat} (hj : j < l.length) : w.cell? ⟨g, j, none⟩ = some (.int .i64 (l[j]?.getD 0)) := by
  obtain ⟨sp, h⟩ := h
  simp [World.cell?, h, List.getElem?_append_left, hj]
theorem SpRow.frozen {w : World} {g : Nat} {l : List Int} (h : SpRow w g l) (j : Nat) : w.frozen? ⟨g, j, none⟩ = false := by
  obtain ⟨sp, h⟩ := h
  simp [World.frozen?, h]
theorem SpRow.keep {w w' : World} {g : Nat} {l : List Int} (h : SpRow w g l) (hk : w'.heap[g]? = w.heap[g]?) : SpRow w' g l := by
  obtain ⟨sp, h⟩ := h; exact ⟨sp, hk.trans h⟩
theorem SpRow.set {w : World} {g : Nat} {l : List Int} (h : SpRow w g l) (j : Nat) (hj : j < l.length) (n : Int) : SpRow (w.setCell ⟨g, j, none⟩ (.int .i64 n)) g (l.set j n) := by
  obtain ⟨sp, h⟩ := h
  refine ⟨sp, ?_⟩
  rw [cells_set h]
  congr 2
  apply Array.toList_inj.1
  simp [List.set_append, hj, List.map_set]
theorem SpRow.ints {w : World} {g : Nat} {l : List Int} (h : SpRow w g l) : IntsAt w (some ⟨g, 0, none⟩) l :=
  fun j hj => ⟨g, 0, rfl, h.lt, by rw [Nat.zero_add]; exact h.cell hj⟩

def setL (l : List Int) (o : Nat) : List Int → List Int
  | [] => l
  | x :: r => setL (l.set o x) (o + 1) r
theorem getElem?_setL : ∀ (xs l : List Int) (o j : Nat), o + xs.length ≤ l.length → (setL l o xs)[j]? = if o ≤ j ∧ j < o + xs.length then xs[j - o]? else l[j]?
  | [], l, o, j, _ => by simp [setL]; omega
  | x :: r, l, o, j, h => by
    simp only [List.length_cons] at h
    rw [setL, getElem?_setL r (l.set o x) (o + 1) j (by simp; omega)]
    by_cases h1 : o + 1 ≤ j ∧ j < o + 1 + r.length
    · rw [if_pos h1, if_pos (by simp; omega)]
      rw [show j - o = (j - (o + 1)) + 1 by omega]; simp
    · rw [if_neg h1, List.getElem?_set]
      by_cases h2 : o = j
      · subst h2
        have : o < l.length := by omega
        simp [this]
      · rw [if_neg h2, if_neg (by simp; omega)]
theorem setL_all (l : List Int) : setL l 0 (List.replicate l.length 0) = List.replicate l.length 0 := by
  apply List.ext_getElem?
  intro j
  rw [getElem?_setL _ _ _ _ (by simp)]
  by_cases h : j < l.length <;> simp [h]

theorem SpRow.setCells : ∀ (xs : List Int) (o : Nat) (w : World) (g : Nat) (l : List Int), SpRow w g l → o + xs.length ≤ l.length → SpRow (w.setCells g o (xs.map (Value.int .i64))) g (setL l o xs)
  | [], _, _, _, _, h, _ => h
  | x :: r, o, w, g, l, h, hl => by
    simp only [List.length_cons] at hl
    rw [List.map_cons, World.setCells, setL]
    exact SpRow.setCells r (o + 1) _ g _ (h.set o (by omega) x) (by simp; omega)
theorem Keep.sets : ∀ (vs : List Value) (o : Nat) (w : World) (g : Nat), Keep (fun k => k ≠ g) w (w.setCells g o vs)
  | [], _, w, _ => Keep.refl _ _
  | v :: r, o, w, g => (Keep.set w g o v).trans (Keep.sets r (o + 1) _ g)

def OwnM (w : World) (base : Nat) (v : Value) (M : Mask) : Prop :=
  ∃ (g : Nat → Nat) (vs : List Value), w.ownsRow base 30 1 v M.length vs ∧ (∀ i j, i < M.length → j < M.length → g i = g j → i = j) ∧
    ∀ j (hj : j < M.length), (∃ cap, vs[j]? = some (.slice (some ⟨g j, 0, none⟩) M[j].length cap)) ∧ base ≤ g j ∧ SpRow w (g j) M[j]

theorem OwnM.nil (w : World) (base : Nat) : OwnM w base (.slice none 0 0) [] :=
  ⟨fun _ => 0, [], World.ownsRow_nil _ _ _ _, fun i j hi => by simp at hi, fun j hj => by simp at hj⟩

theorem OwnM.keep {w w' : World} {base : Nat} {v : Value} {M : Mask} (h : OwnM w base v M) (hk : ∀ k, base ≤ k → k < w.heap.size → w'.heap[k]? = w.heap[k]?) : OwnM w' base v M := by
  obtain ⟨g, vs, ho, hi, he⟩ := h
  refine ⟨g, vs, ⟨ho.1, ?_⟩, hi, fun j hj => ?_⟩
  · rcases ho.2 with hn | ⟨g, cap, cur, rfl, hb, hgg, rest⟩
    · exact .inl hn
    · exact .inr ⟨g, cap, cur, rfl, hb, (hk g hb (Array.getElem?_eq_some_iff.1 hgg).1).trans hgg, rest⟩
  · obtain ⟨h1, h2, h3⟩ := he j hj
    exact ⟨h1, h2, h3.keep (hk _ h2 h3.lt)⟩

theorem OwnM.at {w : World} {base : Nat} {v : Value} {M : Mask} (h : OwnM w base v M) (i : Nat) (hi : i < M.length) :
    ∃ g0 cap gi c, v = .slice (some ⟨g0, 0, none⟩) M.length cap ∧ g0 < w.heap.size ∧ w.cell? ⟨g0, i, none⟩ = some (.slice (some ⟨gi, 0, none⟩) M[i].length c) ∧ base ≤ gi ∧ SpRow w gi M[i] ∧
      ∀ w' r', r'.length = M[i].length → SpRow w' gi r' → (∀ k, k < w.heap.size → k ≠ gi → w'.heap[k]? = w.heap[k]?) → OwnM w' base v (M.set i r') := by
  obtain ⟨g, vs, ho, hin, he⟩ := h
  rcases ho.2 with ⟨rfl, h0⟩ | ⟨g0, cap, cur, rfl, hbg, hgg, hnc, hcm, hsz, htk⟩
  · omega
  obtain ⟨⟨c, h1⟩, h2, h3⟩ := he i hi
  have hc := World.ownsRow.cellAt (w := w) (base := base) (e := 30) (size := 1) (g := g0) (n := M.length) (cap := cap) (xs := vs) ⟨ho.1, .inr ⟨g0, cap, cur, rfl, hbg, hgg, hnc, hcm, hsz, htk⟩⟩ i (by omega)
  refine ⟨g0, cap, g i, c, rfl, (Array.getElem?_eq_some_iff.1 hgg).1, by rw [hc, h1], h2, h3, ?_⟩
  intro w' r' hl hr hk
  have hne : g0 ≠ g i := by
    intro e
    obtain ⟨sp, h3⟩ := h3
    rw [← e, hgg] at h3
    cases h3
  refine ⟨g, vs, ⟨by simpa using ho.1, .inr ⟨g0, cap, cur, by simp, hbg, (hk g0 (Array.getElem?_eq_some_iff.1 hgg).1 hne).trans hgg, by simpa using hnc, hcm, hsz, by simpa using htk⟩⟩, fun a b ha hb => hin a b (by simpa using ha) (by simpa using hb), fun j hj => ?_⟩
  have hj' : j < M.length := by simpa using hj
  obtain ⟨⟨c', h1'⟩, h2', h3'⟩ := he j hj'
  by_cases e : i = j
  · subst e
    refine ⟨⟨c', ?_⟩, h2', ?_⟩
    · rw [h1']; simp [hl]
    · simpa using hr
  · refine ⟨⟨c', ?_⟩, h2', ?_⟩
    · rw [h1']; simp [List.getElem_set_ne e]
    · rw [List.getElem_set_ne e]
      exact h3'.keep (hk _ h3'.lt (fun e' => e ((hin j i hj' hi e').symm)))

theorem OwnM.rows {w : World} {base : Nat} {v : Value} {M : Mask} (h : OwnM w base v M) (hl : ∀ r ∈ M, r.length ≤ maxLen) : ∃ a cap, v = .slice a M.length cap ∧ RowsAt w a M := by
  by_cases h0 : M = []
  · subst h0
    obtain ⟨g, vs, ho, _⟩ := h
    obtain ⟨a, cap, rfl⟩ := ownsRow_slice ho
    exact ⟨a, cap, rfl, fun j hj => by simp at hj⟩
  · have hp : 0 < M.length := List.length_pos_iff.2 h0
    obtain ⟨g0, cap, _, _, rfl, _⟩ := h.at 0 hp
    refine ⟨some ⟨g0, 0, none⟩, cap, rfl, fun j hj => ?_⟩
    obtain ⟨g0', cap', gi, c, e, hlt, hc, _, hr, _⟩ := h.at j hj
    cases e
    exact ⟨g0, 0, some ⟨gi, 0, none⟩, _, c, rfl, hlt, by rw [Nat.zero_add]; exact hc, rfl, hl _ (List.getElem_mem hj), hr.ints⟩

theorem fltBox (w : World) (f : Flt) : ∃ wf, wf = w.alloc (.cells #[.int .i64 f.kind, .int .i64 f.row, .int .i64 f.pixel] 113) ∧ Below w.heap.size w wf ∧ (∀ W, Below wf.heap.size wf W → w.heap.size < W.heap.size ∧ W.cell? ⟨w.heap.size, 0, none⟩ = some (.int .i64 f.kind) ∧ W.cell? ⟨w.heap.size, 1, none⟩ = some (.int .i64 f.row) ∧ W.cell? ⟨w.heap.size, 2, none⟩ = some (.int .i64 f.pixel)) := by
  refine ⟨_, rfl, (Below.refl _ _).alloc (Nat.le_refl _) _, fun W hb => ?_⟩
  have hs := hb.size
  simp at hs
  refine ⟨by omega, ?_, ?_, ?_⟩ <;> (rw [hb.cell (p := ⟨w.heap.size, _, none⟩) (by simp), World.cell?_alloc_at _ _ _ _ rfl]; rfl)

end Go.Proofs.YtddcamcdjkiadaaGreatDoor

namespace Go.Proofs.YtddcamcdjkiadaaGreatDoor
open Go.RowKit
set_option linter.unusedVariables false

theorem deeds_c (w : World) : Calls Tryz.prog 117 #[] w fun e w' => e = .returned (.agg #[.func (.func 140) #[] #[], .func (.func 141) #[] #[], .func (.func 142) #[] #[], .func (.func 143) #[] #[]]) ∧ Below w.heap.size w w' := by
  go_enter Tryz.func117, Tryz.ntmps117
  go_wp2
  refine bodyPost_ret (v := .agg #[.func (.func 140) #[] #[], .func (.func 141) #[] #[], .func (.func 142) #[] #[], .func (.func 143) #[] #[]]) ?_ rfl ⟨rfl, ?_⟩
  · simp [results, Tryz.results117, go_sem]
  · exact (Below.refl _ _).alloc (Nat.le_refl _) _

def deadM (M : Mask) (i : Nat) : Mask := M.set i (List.replicate (M[i]?.getD []).length 0)
def darkM (M : Mask) (j : Nat) : Mask := M.map (fun r => r.set j 0)
def turnM (M : Mask) (i j : Nat) : Mask := M.set i ((M[i]?.getD []).set j (-((M[i]?.getD [])[j]?.getD 0)))
def faultyM (M : Mask) (f : Flt) : Mask :=
  if f.kind = 1 then deadM M f.row.toNat else if f.kind = 2 then darkM M f.pixel.toNat else if f.kind = 3 then turnM M f.row.toNat f.pixel.toNat else M

theorem deed1_c (w : World) (v : Value) (row pixel : Int) :
    Calls Tryz.prog 140 #[v, .agg #[.int .i64 0, .int .i64 row, .int .i64 pixel]] w fun e w' => e = .returned (.tuple #[]) ∧ Below w.heap.size w w' := by
  go_enter Tryz.func140, Tryz.ntmps140
  go_wp2
  go_end0
  exact ⟨rfl, (Below.refl _ _).alloc (Nat.le_refl _) _⟩

theorem deed2_c (w : World) (base : Nat) (v : Value) (M : Mask) (h : OwnM w base v M) (hbase : base ≤ w.heap.size) (i : Nat) (hi : i < M.length) (hl : 1 ≤ M[i].length) (hl2 : M[i].length ≤ 10) (hM6 : M.length ≤ 6) (pixel : Int) :
    Calls Tryz.prog 141 #[v, .agg #[.int .i64 1, .int .i64 i, .int .i64 pixel]] w fun e w' => e = .returned (.tuple #[]) ∧ OwnM w' base v (deadM M i) ∧ Below base w w' := by
  obtain ⟨wf, hwf⟩ : ∃ wf, wf = w.alloc (.cells #[.int .i64 1, .int .i64 i, .int .i64 pixel] 113) := ⟨_, rfl⟩
  have hb0 : Below w.heap.size w wf := by rw [hwf]; exact (Below.refl _ _).alloc (Nat.le_refl _) _
  have hf1 : wf.cell? ⟨w.heap.size, 1, none⟩ = some (.int .i64 i) := by rw [hwf, World.cell?_alloc_at _ _ _ _ rfl]; rfl
  have h2 : OwnM wf base v M := h.keep (fun k _ hk => hb0.block k hk)
  obtain ⟨g0, cap, gi, c, rfl, hg0, hc, hgi, hr, hput⟩ := h2.at i hi
  have hcl := fun ty => Lib.run_clear_slice (P := Tryz.prog) wf 30 3 ty (.int .i64 0) Tryz.underlying30 Tryz.zeroValue3 rfl rfl gi 0 M[i].length c hl (fun j hj => by rw [Nat.zero_add, hr.cell hj]; rfl) (fun j _ => hr.frozen _)
  have hset : SpRow (wf.setCells gi 0 (List.replicate M[i].length (.int .i64 0))) gi (List.replicate M[i].length 0) := by
    have := SpRow.setCells (List.replicate M[i].length 0) 0 wf gi M[i] hr (by simp)
    rw [setL_all, List.map_replicate] at this
    exact this
  have hkp := Keep.sets (List.replicate M[i].length (.int .i64 0)) 0 wf gi
  have hown := hput _ _ (by simp) hset (fun k hk hne => hkp.block k hk hne)
  have hdead : deadM M i = M.set i (List.replicate M[i].length 0) := by unfold deadM; rw [List.getElem?_eq_getElem hi]; rfl
  rw [← hdead] at hown
  have hbe : Below base w (wf.setCells gi 0 (List.replicate M[i].length (.int .i64 0))) := by
    have h1 : Below base w wf := hb0.mono hbase
    exact h1.trans ⟨hkp.os, hkp.tape, hkp.output, hkp.size, fun k hk => hkp.block k (by have := h1.size; omega) (by omega)⟩
  have hlen : M.length ≤ 6 := hM6
  have HO := hid hown
  have HBE := hid hbe
  obtain ⟨L, hL⟩ : ∃ L, L = M[i].length := ⟨_, rfl⟩
  rw [← hL] at hcl HO HBE hc hl hl2
  obtain ⟨n, hn⟩ : ∃ n, n = M.length := ⟨_, rfl⟩
  rw [← hn] at HO hi hlen ⊢
  clear hown hbe hput hset hkp hdead h h2 hr hL hn hb0
  subst hwf
  go_enter Tryz.func141, Tryz.ntmps141
  go_wp2
  go_end0
  exact ⟨rfl, HO.out, HBE.out⟩

def darkTo (M : Mask) (j k : Nat) : Mask := (M.take k).map (fun r => r.set j 0) ++ M.drop k
theorem darkTo_zero (M : Mask) (j : Nat) : darkTo M j 0 = M := by simp [darkTo]
theorem darkTo_all (M : Mask) (j : Nat) : darkTo M j M.length = darkM M j := by simp [darkTo, darkM]
theorem length_darkTo (M : Mask) (j k : Nat) : (darkTo M j k).length = M.length := by simp [darkTo]; omega
theorem darkTo_at (M : Mask) (j k : Nat) (hk : k < M.length) : (darkTo M j k)[k]? = some M[k] := by
  unfold darkTo
  rw [List.getElem?_append_right (by simp; omega)]
  simp [Nat.min_eq_left (Nat.le_of_lt hk), hk]
theorem darkTo_succ (M : Mask) (j k : Nat) (hk : k < M.length) : darkTo M j (k + 1) = (darkTo M j k).set k (M[k].set j 0) := by
  unfold darkTo
  rw [List.take_succ_eq_append_getElem hk, List.map_append, List.set_append_right _ _ (by simp; omega)]
  simp only [List.length_map, List.length_take, Nat.min_eq_left (Nat.le_of_lt hk), Nat.sub_self, List.append_assoc]
  congr 1
  have := List.drop_eq_getElem_cons hk
  rw [this]
  rfl

theorem deed3_c (w : World) (base : Nat) (v : Value) (M : Mask) (h : OwnM w base v M) (hbase : base ≤ w.heap.size) (j : Nat) (hj : ∀ r ∈ M, j < r.length) (hj2 : ∀ r ∈ M, r.length ≤ 10) (hM1 : 1 ≤ M.length) (hM6 : M.length ≤ 6) (row : Int) :
    Calls Tryz.prog 142 #[v, .agg #[.int .i64 2, .int .i64 row, .int .i64 j]] w fun e w' => e = .returned (.tuple #[]) ∧ OwnM w' base v (darkM M j) ∧ Below base w w' := by
  obtain ⟨wf, hwf⟩ : ∃ wf, wf = w.alloc (.cells #[.int .i64 2, .int .i64 row, .int .i64 j] 113) := ⟨_, rfl⟩
  have hb0 : Below w.heap.size w wf := by rw [hwf]; exact (Below.refl _ _).alloc (Nat.le_refl _) _
  have hf1 : wf.cell? ⟨w.heap.size, 2, none⟩ = some (.int .i64 j) := by rw [hwf, World.cell?_alloc_at _ _ _ _ rfl]; rfl
  have hfb : wf.heap[w.heap.size]? = some (.cells #[.int .i64 2, .int .i64 row, .int .i64 j] 113 (0, 0)) := by rw [hwf]; exact World.alloc_heap_new w _
  have hfs : w.heap.size < wf.heap.size := by rw [hwf]; simp
  have h2 : OwnM wf base v M := h.keep (fun k _ hk => hb0.block k hk)
  obtain ⟨g0, cap, gi, c, rfl, hg0, hc, hgi, hr, hput⟩ := h2.at 0 hM1
  have hbW : Below base w wf := hb0.mono hbase
  have HH2 := hid h2
  have HJ := hid hj
  have HJ2 := hid hj2
  obtain ⟨n, hn⟩ : ∃ n, n = M.length := ⟨_, rfl⟩
  rw [← hn] at hM1 hM6 HH2 ⊢
  have HN := hid hn
  have HBW := hid hbW
  have HFI := hid hf1
  have HFB := hid hfb
  have HWF := hid hwf
  clear hc hgi hr hput h h2 hb0 hj hj2 hn hbW hg0 gi c hf1 hfb hwf
  go_enter Tryz.func142, Tryz.ntmps142
  go_wp2
  rw [← HWF.out]
  go_loopw [8] (fun i wr => ∃ k : Nat, k ≤ n ∧ i = .int .i64 k ∧ OwnM wr base (.slice (some ⟨g0, 0, none⟩) n cap) (darkTo M j k) ∧ Keep (fun b => b < base ∨ b = w.heap.size) wf wr) (fun i _ => n - (intOf i).toNat)
  case atStart => exact ⟨0, Nat.zero_le _, rfl, by rw [darkTo_zero]; exact HH2.out, Keep.refl _ _⟩
  case round =>
    obtain ⟨k, hk, rfl, ho, hkp⟩ := hrel
    by_cases hlt : k < n
    · have hkM : k < M.length := by rw [← HN.out]; exact hlt
      have hd := darkTo_at M j k hkM
      have hkd : k < (darkTo M j k).length := by rw [length_darkTo]; exact hkM
      obtain ⟨g0', cap', gi, c, e, hg0, hc, hgi, hr, hput⟩ := ho.at k hkd
      have hrow : (darkTo M j k)[k] = M[k] := by rw [List.getElem?_eq_getElem hkd] at hd; exact Option.some.inj hd
      rw [hrow] at hc hr hput
      have hjr := HJ.out M[k] (List.getElem_mem hkM)
      have hr10 := HJ2.out M[k] (List.getElem_mem hkM)
      have hcell := hr.cell hjr
      have hfz := hr.frozen j
      have hf1 : wr.cell? ⟨w.heap.size, 2, none⟩ = some (.int .i64 j) := hkp.cell HFI.out (.inr rfl)
      have hset := hr.set j hjr 0
      have hkk := Keep.set wr gi j (.int .i64 0)
      have hne : gi ≠ w.heap.size := by
        rintro rfl
        obtain ⟨sp, hsp⟩ := hr
        rw [hkp.block w.heap.size hfs (.inr rfl), HFB.out] at hsp
        simp at hsp
      have hown := hput _ _ (by simp) hset (fun b hb hne => hkk.block b hb hne)
      have htk := darkTo_succ M j k hkM
      rw [← htk] at hown
      have hkp2 : Keep (fun b => b < base ∨ b = w.heap.size) wf (wr.setCell ⟨gi, j, none⟩ (.int .i64 0)) := hkp.trans (hkk.mono fun b hb => by omega)
      obtain ⟨L, hL⟩ : ∃ L, L = M[k].length := ⟨_, rfl⟩
      rw [← hL] at hjr hr10 hc
      have e2 : g0' = g0 := by cases e; rfl
      obtain ⟨V, hV⟩ : ∃ V, V = M[k][j]?.getD 0 := ⟨_, rfl⟩
      rw [← hV] at hcell
      subst e2
      have HO := hid hown
      have HK := hid hkp2
      clear hset hkk hput hr hd hrow htk hown hkp2 hkp ho hL e hkd hV hkM
      go_wp2
      exact ⟨⟨k + 1, by omega, by go_num, HO.out, HK.out⟩, by simp [intOf]; omega⟩
    · obtain rfl : k = n := by omega
      go_wp2
      go_end0
      rw [HN.out, darkTo_all] at ho
      refine ⟨rfl, ?_, HBW.out.trans ⟨hkp.os, hkp.tape, hkp.output, hkp.size, fun b hb => hkp.block b (by have := HBW.out.size; omega) (.inl hb)⟩⟩
      rw [← HN.out] at ho
      exact ho

theorem deed4_c (w : World) (base : Nat) (v : Value) (M : Mask) (h : OwnM w base v M) (hbase : base ≤ w.heap.size) (i j : Nat) (hi : i < M.length) (hj : j < M[i].length) (hr : ∀ n ∈ M[i], -1 ≤ n ∧ n ≤ 1) (hl2 : M[i].length ≤ 10) (hM6 : M.length ≤ 6) :
    Calls Tryz.prog 143 #[v, .agg #[.int .i64 3, .int .i64 i, .int .i64 j]] w fun e w' => e = .returned (.tuple #[]) ∧ OwnM w' base v (turnM M i j) ∧ Below base w w' := by
  obtain ⟨wf, hwf⟩ : ∃ wf, wf = w.alloc (.cells #[.int .i64 3, .int .i64 i, .int .i64 j] 113) := ⟨_, rfl⟩
  have hb0 : Below w.heap.size w wf := by rw [hwf]; exact (Below.refl _ _).alloc (Nat.le_refl _) _
  have hf1 : wf.cell? ⟨w.heap.size, 1, none⟩ = some (.int .i64 i) := by rw [hwf, World.cell?_alloc_at _ _ _ _ rfl]; rfl
  have hf2 : wf.cell? ⟨w.heap.size, 2, none⟩ = some (.int .i64 j) := by rw [hwf, World.cell?_alloc_at _ _ _ _ rfl]; rfl
  have h2 : OwnM wf base v M := h.keep (fun k _ hk => hb0.block k hk)
  obtain ⟨g0, cap, gi, c, rfl, hg0, hc, hgi, hrow, hput⟩ := h2.at i hi
  have hcell := hrow.cell hj
  have hfz := hrow.frozen j
  have hV := hr (M[i][j]?.getD 0) (by rw [List.getElem?_eq_getElem hj]; exact List.getElem_mem hj)
  have hturn : turnM M i j = M.set i (M[i].set j (-(M[i][j]?.getD 0))) := by unfold turnM; rw [List.getElem?_eq_getElem hi]; rfl
  obtain ⟨V, hVE⟩ : ∃ V, V = M[i][j]?.getD 0 := ⟨_, rfl⟩
  rw [← hVE] at hcell hV hturn
  have hwr : wrap64 (-V) = -V := by unfold wrap64; omega
  have HP := hid (show OwnM (wf.setCell ⟨gi, j, none⟩ (.int .i64 (wrap64 (-V)))).drew base (.slice (some ⟨g0, 0, none⟩) M.length cap) (turnM M i j) ∧ Below base w (wf.setCell ⟨gi, j, none⟩ (.int .i64 (wrap64 (-V)))).drew from by
    rw [hwr]
    have hk : Keep (fun b => b ≠ gi) wf (wf.setCell ⟨gi, j, none⟩ (.int .i64 (-V))) := Keep.set wf gi j _
    refine ⟨?_, ?_⟩
    · rw [hturn]
      have h3 := hput (wf.setCell ⟨gi, j, none⟩ (.int .i64 (-V))) _ (by simp) (hrow.set j hj (-V)) (fun k hk2 hne => hk.block k hk2 hne)
      exact h3.keep (fun k _ _ => rfl)
    · have h1 : Below base w wf := hb0.mono hbase
      have h3 : Below base w (wf.setCell ⟨gi, j, none⟩ (.int .i64 (-V))) := h1.trans ⟨hk.os, hk.tape, hk.output, hk.size, fun b hb => hk.block b (by have := h1.size; omega) (by omega)⟩
      exact h3.drew)
  obtain ⟨n, hn⟩ : ∃ n, n = M.length := ⟨_, rfl⟩
  rw [← hn] at hi hM6 HP ⊢
  obtain ⟨L, hL⟩ : ∃ L, L = M[i].length := ⟨_, rfl⟩
  have hjL : j < L := by omega
  have hL10 : L ≤ 10 := by omega
  rw [← hL] at hc
  clear hrow hput hturn hVE hV hwr hn hL hl2 hr h h2 hb0 hj
  subst hwf
  go_enter Tryz.func143, Tryz.ntmps143
  go_wp2
  go_region
  go_wp2
  go_end0
  exact ⟨rfl, HP.out.1, HP.out.2⟩

theorem faultyM_row {M : Mask} {f : Flt} : (faultyM M f).length = M.length := by
  unfold faultyM deadM darkM turnM
  split
  · simp
  · split
    · simp
    · split <;> simp

theorem clone_c (w : World) (a : Option Addr) (n cap : Nat) (l : List Int) (hn : l.length = n) (hm : n * 8 ≤ 140737488355328) (H : IntsAt w a l) :
    Calls Tryz.prog 103 #[.slice a n cap] w fun e w' => ∃ v, e = .returned v ∧ w'.ownsRow w.heap.size 3 1 v n (l.map (Value.int .i64)) ∧ Below w.heap.size w w' := by
  obtain ⟨i0, hi, hz0, hz1, hz2⟩ := info_parts info_int
  have heq := fun (w : World) (a : Option Addr) (n c : Nat) => Lib.run_eql_slice_nil (P := Tryz.prog) w 30 3 a n c 0 0 Tryz.underlying30
  cases a with
  | none =>
    have h0 : n = 0 := by
      rcases Nat.eq_zero_or_pos n with h | h
      · exact h
      · obtain ⟨_, _, e, _⟩ := H 0 (by omega); cases e
    subst h0
    have hl : l = [] := List.eq_nil_of_length_eq_zero hn
    subst hl
    clear hn H hm
    go_enter Tryz.func103, Tryz.ntmps103
    go_wp2
    go_ret
    exact ⟨_, rfl, World.ownsRow_nil _ _ _ _, Below.refl _ _⟩
  | some ad =>
    have HN := hid hn
    have hnews : ∀ j u, (l.map (Value.int .i64))[j]? = some u → (w.alloc (.cells #[] 3)).cell? (ad.add j) = some u := by
      intro j u hu
      rw [List.getElem?_map] at hu
      obtain ⟨x, hx, rfl⟩ := Option.map_eq_some_iff.1 hu
      obtain ⟨hjl, e⟩ := List.getElem?_eq_some_iff.1 hx
      obtain ⟨b, off, ea, hb, hc⟩ := H j hjl
      cases ea
      rw [Addr.add_lit]
      refine (((Below.refl _ w).alloc (Nat.le_refl _) (.cells #[] 3)).cell (p := ⟨b, off + j, none⟩) hb).trans ?_
      rw [hc, hx]; rfl
    have HNews := hid hnews
    clear hnews H hn
    go_enter Tryz.func103, Tryz.ntmps103
    go_wp2_with (at_builtin; refine wpList_append_own _ rfl _ _ 30 rfl w.heap.size 3 i0 (.int .i64 0) 1 8 Tryz.underlying30 hi hz0 hz1 hz2 rfl (by decide) _ 0 [] rfl (World.ownsRow_made _ _ 0 (Nat.le_refl _) (by unfold maxLen; omega) rfl) ad n cap (l.map (Value.int .i64)) rfl (by rw [List.length_map, HN.out]; omega) HNews.out (ints_oneCell _ _) (by unfold maxLen; omega) (by omega) (by simp) ?_; intro v' w1 hown' hgrow _)
    go_ret
    refine ⟨_, rfl, by simpa using hown', ((Below.refl _ w).alloc (Nat.le_refl _) _).grown hgrow (by simp) (fun k hk => by cases hk; exact Nat.le_refl _)⟩
end Go.Proofs.YtddcamcdjkiadaaGreatDoor

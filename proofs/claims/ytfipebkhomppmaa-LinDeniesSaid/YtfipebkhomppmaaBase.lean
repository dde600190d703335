/- Plain helpers on worlds, slices as lists and hidden facts, used by all walks of this seat. -/
import Derived.Test.YtfipebkhomppmaaRows
import Derived.WalkKit
import Derived.BigQuiet
import Derived.Deep.QuietTactic
import Derived.Shelf.Abstract
import Derived.Deep.OwnRows
namespace Go.Proofs.Ytfipebkhomppmaa
open Go.RowKit
set_option linter.unusedVariables false

/-- a goal before which a walk shall stand still -/
def Stop (P : Prop) : Prop := P
theorem Stop.of {P : Prop} (h : Stop P) : P := h
theorem Stop.go {P : Prop} (h : P) : Stop P := h
theorem hid {p : Prop} (h : p) : Hid p := h

/-- the cells of a slice value with address a hold the numbers l -/
def IntsAt (w : World) (a : Option Addr) (l : List Int) : Prop :=
  ∀ j, j < l.length → ∃ b off, a = some ⟨b, off, none⟩ ∧ b < w.heap.size ∧ w.cell? ⟨b, off + j, none⟩ = some (.int .i64 (l[j]?.getD 0))

theorem IntsAt.below {w w' : World} {a : Option Addr} {l : List Int} (h : IntsAt w a l) (hb : Below w.heap.size w w') : IntsAt w' a l := by
  intro j hj
  obtain ⟨b, off, e, hlt, hc⟩ := h j hj
  exact ⟨b, off, e, Nat.lt_of_lt_of_le hlt hb.size, (hb.cell (p := ⟨b, off + j, none⟩) hlt).trans hc⟩

theorem chain {a b c : World} (h : Below a.heap.size a b) (k : Below b.heap.size b c) : Below a.heap.size a c := h.trans (k.mono h.size)

theorem below_drewN {B : Nat} {a w : World} (h : Below B a w) (n : Nat) : Below B a (w.drewN n) := ⟨h.os, h.tape, h.output, h.size, h.block⟩

theorem bcell {W w1 : World} (hb : Below W.heap.size W w1) : (∀ b o, b < W.heap.size → w1.cell? ⟨b, o, none⟩ = W.cell? ⟨b, o, none⟩) ∧ (∀ b o, b < W.heap.size → w1.frozen? ⟨b, o, none⟩ = W.frozen? ⟨b, o, none⟩) :=
  ⟨fun b o h => hb.cell (p := ⟨b, o, none⟩) h, fun b o h => hb.frozen (p := ⟨b, o, none⟩) h⟩

theorem meas {n k : Nat} (h : k < n) : n - (intOf (.int .i64 ((k : Int) + 1))).toNat < n - (intOf (.int .i64 (k : Int))).toNat := by simp [intOf]; omega
theorem cast1 (k : Nat) : Value.int .i64 ((k : Int) + 1) = Value.int .i64 ((k + 1 : Nat) : Int) := by congr 1

theorem ret_int {k : IntKind} {a b : Int} (h : a = b) : Ending.returned (.int k a) = .returned (.int k b) := by rw [h]
theorem ret_bool {a b : Bool} (h : a = b) : Ending.returned (.bool a) = .returned (.bool b) := by rw [h]

/-- index of the first element that p takes, as Go's IndexFunc gives it -/
def idxP {α : Type} (p : α → Bool) : List α → Nat → Int
  | [], _ => -1
  | x :: l, k => if p x then (k : Int) else idxP p l (k + 1)

theorem idxP_neg {α : Type} (p : α → Bool) : ∀ (l : List α) (k : Nat), (∀ x ∈ l, p x = false) → idxP p l k = -1
  | [], _, _ => rfl
  | x :: l, k, h => by
    unfold idxP
    rw [if_neg (by rw [h x (by simp)]; simp), idxP_neg p l (k + 1) (fun y hy => h y (by simp [hy]))]

theorem idxP_at {α : Type} (p : α → Bool) : ∀ (l : List α) (k j : Nat) (x : α), l[j]? = some x → p x = true → (∀ i y, i < j → l[i]? = some y → p y = false) → idxP p l k = ((k + j : Nat) : Int)
  | [], _, j, x, h, _, _ => by simp at h
  | y :: l, k, 0, x, h, hp, _ => by
    simp at h; subst h; unfold idxP; rw [if_pos hp]; simp
  | y :: l, k, j + 1, x, h, hp, hn => by
    have h0 := hn 0 y (by omega) rfl
    unfold idxP
    rw [if_neg (by rw [h0]; simp), idxP_at p l (k + 1) j x (by simpa using h) hp (fun i z hi hz => hn (i + 1) z (by omega) (by simpa using hz))]
    congr 1; omega

theorem idxP_ge {α : Type} (p : α → Bool) : ∀ (l : List α) (k : Nat), (0 ≤ idxP p l k) = (l.any p = true)
  | [], k => by simp [idxP]
  | x :: l, k => by
    unfold idxP
    by_cases h : p x = true
    · simp [h]
    · rw [if_neg h, idxP_ge p l (k + 1)]; simp [h]

/-- a predicate handed over as a function value: in every later world it answers p and leaves what was there -/
def PredI (P : Program) (g : Nat) (lb : Array Value) (w : World) (p : Int → Bool) : Prop :=
  ∀ (x : Int) (W : World), Below w.heap.size w W → Calls P g (#[.int .i64 x] ++ lb) W fun e W' => e = .returned (.bool (p x)) ∧ Below W.heap.size W W'

theorem getD_lt {l : List Int} {k : Nat} (h : k < l.length) : l[k]? = some (l[k]?.getD 0) := by
  simp [List.getElem?_eq_getElem h]

/-- a cell of the document: a row and two bounds -/
structure Cel where
  row : List Int
  lo : Int
  hi : Int

def CelV (w : World) (v : Value) (c : Cel) : Prop :=
  ∃ ra n cap, v = .agg #[.slice ra n cap, .int .i64 c.lo, .int .i64 c.hi] ∧ c.row.length = n ∧ n ≤ maxLen ∧ IntsAt w ra c.row

theorem CelV.below {w w' : World} {v : Value} {c : Cel} (h : CelV w v c) (hb : Below w.heap.size w w') : CelV w' v c := by
  obtain ⟨ra, n, cap, e, hn, hm, hi⟩ := h
  exact ⟨ra, n, cap, e, hn, hm, hi.below hb⟩

/-- the cells of a slice of such cells -/
def CellsAt (w : World) (a : Option Addr) (l : List Cel) : Prop :=
  ∀ j (hj : j < l.length), ∃ b off ra n cap, a = some ⟨b, off, none⟩ ∧ b < w.heap.size ∧
    w.cell? ⟨b, off + j * 3, none⟩ = some (.slice ra n cap) ∧ w.cell? ⟨b, off + j * 3 + 1, none⟩ = some (.int .i64 l[j].lo) ∧ w.cell? ⟨b, off + j * 3 + 2, none⟩ = some (.int .i64 l[j].hi) ∧
    l[j].row.length = n ∧ n ≤ maxLen ∧ IntsAt w ra l[j].row

theorem CellsAt.below {w w' : World} {a : Option Addr} {l : List Cel} (h : CellsAt w a l) (hb : Below w.heap.size w w') : CellsAt w' a l := by
  intro j hj
  obtain ⟨b, off, ra, n, cap, e, hlt, h0, h1, h2, hn, hm, hi⟩ := h j hj
  exact ⟨b, off, ra, n, cap, e, Nat.lt_of_lt_of_le hlt hb.size, (hb.cell (p := ⟨b, _, none⟩) hlt).trans h0, (hb.cell (p := ⟨b, _, none⟩) hlt).trans h1, (hb.cell (p := ⟨b, _, none⟩) hlt).trans h2, hn, hm, hi.below hb⟩

def PredC (P : Program) (g : Nat) (lb : Array Value) (w : World) (ok : Cel → Prop) (p : Cel → Bool) : Prop :=
  ∀ (c : Cel) (v : Value) (W : World), ok c → Below w.heap.size w W → CelV W v c → Calls P g (#[v] ++ lb) W fun e W' => e = .returned (.bool (p c)) ∧ Below W.heap.size W W'
end Go.Proofs.Ytfipebkhomppmaa

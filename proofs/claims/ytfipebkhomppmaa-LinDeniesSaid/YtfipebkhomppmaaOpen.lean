/- From the readings of a statement's arguments to the facts that the walks take. -/
import Derived.Test.YtfipebkhomppmaaLists
import Derived.ChangeOld
import Derived.Deep.Slices
import Derived.Lib.SmallJoins
namespace Go.Proofs.Ytfipebkhomppmaa
open Go.ChangeShapes Go.WideShapes Go.ChangeAt Go.RowKit Go.Deep
set_option linter.unusedVariables false

/-- an int fits its kind -/
def Fits64 (n : Int) : Prop := -9223372036854775808 ≤ n ∧ n ≤ 9223372036854775807
theorem fits64 {n : Int} (h : (Lit.int .i64 n).wf = true) : Fits64 n := by
  simpa [Fits64, Lit.wf, IntKind.min, IntKind.max, IntKind.signed, IntKind.bits] using h

theorem cell_plain {w : World} {a : Addr} {v : Value} (h : w.cell? a = some v) : a = ⟨a.block, a.off, none⟩ ∧ a.block < w.heap.size := by
  unfold World.cell? at h
  split at h
  · rename_i c _ _ hb
    obtain ⟨b, o, s⟩ := a
    cases s with
    | none => exact ⟨rfl, (Array.getElem?_eq_some_iff.1 hb).1⟩
    | some s => simp at h
  · simp at h

theorem add_plain (b o : Nat) (i : Nat) : (Addr.mk b o none).add i = ⟨b, o + i, none⟩ := by
  unfold Addr.add
  split
  · rename_i h; rw [h]; rfl
  · rfl

section
variable {H : Type} {enc : TypeId × Value → H} {P : Program} {w : World} {base : Nat} {held : Bool}

theorem ints_opened {e q : TypeId} {fuel : Nat} {a : Option Addr} {n cap : Nat} {x : DataW H × List MemPlace} (he : P.underlying e = some (.slice q)) (hq : P.underlying q = some (.int .i64)) (cq : P.cellsOf q = 1)
    (h : DataW.trod enc P w base (fun _ => true) held fuel e [.slice a n cap] = some x) : ∃ l : List Int, l.length = n ∧ n ≤ maxLen ∧ IntsAt w a l ∧ ∀ y ∈ l, Fits64 y := by
  rcases open_ints he hq cq h with ⟨hcs, _⟩ | ⟨x, l, c, zs, hcs, _, hl, hm, hz, _, hcell, hwz⟩
  · simp at hcs
    obtain ⟨rfl, rfl, rfl⟩ := hcs
    exact ⟨[], rfl, by decide, fun j hj => by simp at hj, fun y hy => by simp at hy⟩
  · simp at hcs
    obtain ⟨rfl, rfl, rfl⟩ := hcs
    simp only [if_true] at hz
    refine ⟨zs.take n, by rw [List.length_take]; omega, by omega, fun j hj => ?_, fun y hy => fits64 (hwz y (List.mem_of_mem_take hy))⟩
    rw [List.length_take] at hj
    have h0 := cell_plain (hcell 0 (by omega))
    simp only [Addr.add, if_true] at h0
    obtain ⟨b, o, s⟩ := x
    have hs : s = none := by have := h0.1; simp at this; exact this
    subst hs
    refine ⟨b, o, rfl, h0.2, ?_⟩
    have := hcell j (by omega)
    rw [add_plain] at this
    rw [this]
    simp [List.getElem?_take, show j < n by omega, List.getD]

/-- []int -/
theorem arg_ints {r : Reach} {b0 : Nat} {e q : TypeId} {v : Value} {d : DataW H} {p : List MemPlace} (he : P.underlying e = some (.slice q)) (hq : P.underlying q = some (.int .i64)) (cq : P.cellsOf q = 1)
    (hv : Value.okWide P w r b0 e v) (h : DataW.Trod enc P w base (fun _ => true) held e v d p) : ∃ a n cap, ∃ l : List Int, v = .slice a n cap ∧ l.length = n ∧ n ≤ maxLen ∧ IntsAt w a l ∧ ∀ y ∈ l, Fits64 y := by
  obtain ⟨a, n, cap, rfl⟩ := okWide_slice he hv
  obtain ⟨fuel, hf⟩ := h
  obtain ⟨l, h1, h2, h3, h4⟩ := ints_opened he hq cq (by simpa [Value.cells] using hf)
  exact ⟨a, n, cap, l, rfl, h1, h2, h3, h4⟩

/-- a struct of two ints -/
theorem arg_pair {r : Reach} {b0 : Nat} {t : TypeId} {f0 f1 : Field} {v : Value} {d : DataW H} {p : List MemPlace} (hs : P.underlying t = some (.struct #[f0, f1])) (hone : oneCellFields P #[f0, f1] = true) (hC : P.cellsOf t = 2)
    (h0 : P.underlying f0.type = some (.int .i64)) (h1 : P.underlying f1.type = some (.int .i64)) (hv : Value.okWide P w r b0 t v) (h : DataW.Trod enc P w base (fun _ => true) held t v d p) :
    ∃ x y : Int, v = .agg #[.int .i64 x, .int .i64 y] ∧ Fits64 x ∧ Fits64 y := by
  obtain ⟨v0, v1, y0, y1, n, rfl, _, _, k0, k1⟩ := Go.Joins.open_agg2 hs hone hC hv h
  obtain ⟨n0, e0, _, w0⟩ := DataW.trod_int h0 k0
  obtain ⟨n1, e1, _, w1⟩ := DataW.trod_int h1 k1
  simp at e0 e1
  subst e0; subst e1
  exact ⟨n0, n1, rfl, fits64 w0, fits64 w1⟩

/-- the int that a slice of cells' reading holds -/
theorem arg_cells {r : Reach} {b0 : Nat} {t c e q : TypeId} {f0 f1 f2 : Field} {v : Value} {d : DataW H} {p : List MemPlace} (ht : P.underlying t = some (.slice c)) (hs : P.underlying c = some (.struct #[f0, f1, f2])) (hone : oneCellFields P #[f0, f1, f2] = true) (hC : P.cellsOf c = 3)
    (h0 : f0.type = e) (he : P.underlying e = some (.slice q)) (hq : P.underlying q = some (.int .i64)) (cq : P.cellsOf q = 1) (h1 : P.underlying f1.type = some (.int .i64)) (h2 : P.underlying f2.type = some (.int .i64))
    (hv : Value.okWide P w r b0 t v) (h : DataW.Trod enc P w base (fun _ => true) held t v d p) : ∃ a n cap, ∃ l : List Cel, v = .slice a n cap ∧ l.length = n ∧ n ≤ maxLen ∧ CellsAt w a l ∧ ∀ y ∈ l, Fits64 y.lo ∧ Fits64 y.hi ∧ ∀ z ∈ y.row, Fits64 z := by
  obtain ⟨a, n, cap, rfl⟩ := okWide_slice ht hv
  obtain ⟨fuel, hf⟩ := h
  rcases open_slice ht (by simpa [Value.cells] using hf) with ⟨hcs, _⟩ | ⟨x, len, c', m, nn, D, Pl, hcs, _, hl, hm, hmm, _, hx⟩
  · simp at hcs
    obtain ⟨rfl, rfl, rfl⟩ := hcs
    exact ⟨none, 0, 0, [], rfl, rfl, by decide, fun j hj => by simp at hj, fun y hy => by simp at hy⟩
  simp at hcs
  obtain ⟨rfl, rfl, rfl⟩ := hcs
  simp only [if_true] at hmm
  obtain ⟨o0, k0⟩ := hone_of hone 0 f0 rfl
  obtain ⟨o1, k1⟩ := hone_of hone 1 f1 rfl
  obtain ⟨o2, k2⟩ := hone_of hone 2 f2 rfl
  have each : ∀ i, i < n → ∃ y : Cel × Option Addr × Nat × Nat, w.cell? (x.add (i * 3)) = some (.slice y.2.1 y.2.2.1 y.2.2.2) ∧ w.cell? ((x.add (i * 3)).add 1) = some (.int .i64 y.1.lo) ∧ w.cell? ((x.add (i * 3)).add 2) = some (.int .i64 y.1.hi) ∧
      y.1.row.length = y.2.2.1 ∧ y.2.2.1 ≤ maxLen ∧ IntsAt w y.2.1 y.1.row ∧ (∀ z ∈ y.1.row, Fits64 z) ∧ Fits64 y.1.lo ∧ Fits64 y.1.hi := by
    intro i hi
    obtain ⟨cs', hc, htr⟩ := hx i (by omega)
    rw [hC] at hc
    obtain ⟨_, hlen, hcell⟩ := World.cells?_some hc
    match cs', hlen with
    | [c0, c1, c2], _ =>
      obtain ⟨y0, y1, y2, n', _, _, t0, t1, t2⟩ := trod_struct3 hs htr
      rw [o0, k0] at t0
      rw [o1, k1] at t1
      rw [o2, k2] at t2
      simp at t0 t1 t2
      obtain ⟨z1, e1, _, w1⟩ := DataW.trod_int h1 t1
      obtain ⟨z2, e2, _, w2⟩ := DataW.trod_int h2 t2
      simp at e1 e2
      subst e1; subst e2
      rw [h0] at t0
      have hsl : ∃ ra rn rc, c0 = .slice ra rn rc := by
        rcases open_ints he hq cq t0 with ⟨hcs, _⟩ | ⟨x, l, c, zs, hcs, _⟩
        · simp at hcs; exact ⟨_, _, _, hcs⟩
        · simp at hcs; exact ⟨_, _, _, hcs⟩
      obtain ⟨ra, rn, rc, rfl⟩ := hsl
      obtain ⟨l, q1, q2, q3, q4⟩ := ints_opened he hq cq t0
      have hc0 := hcell 0 (by omega)
      rw [show (x.add (i * 3)).add 0 = x.add (i * 3) from rfl] at hc0
      exact ⟨(⟨l, z1, z2⟩, ra, rn, rc), by simpa using hc0, by simpa using hcell 1 (by omega), by simpa using hcell 2 (by omega), q1, q2, q3, q4, fits64 w1, fits64 w2⟩
  haveI : Inhabited (Cel × Option Addr × Nat × Nat) := ⟨(⟨[], 0, 0⟩, none, 0, 0)⟩
  obtain ⟨y, hy⟩ := choose_lt each
  refine ⟨some x, n, cap, (List.range n).map fun i => (y i).1, rfl, by simp, by omega, fun j hj => ?_, fun z hz => ?_⟩
  · have hjn : j < n := by simpa using hj
    have hp := cell_plain (hy 0 (by omega)).1
    simp only [Addr.add, Nat.zero_mul, if_true] at hp
    obtain ⟨b, o, s⟩ := x
    have hs' : s = none := by have := hp.1; simp at this; exact this
    subst hs'
    obtain ⟨r0, r1, r2, r3, r4, r5, r6, r7, r8⟩ := hy j hjn
    rw [add_plain] at r0 r1 r2
    rw [add_plain] at r1 r2
    refine ⟨b, o, (y j).2.1, (y j).2.2.1, (y j).2.2.2, rfl, hp.2, r0, ?_, ?_, ?_, r4, ?_⟩ <;> simp only [List.getElem_map, List.getElem_range] <;> assumption
  · obtain ⟨i, hi, rfl⟩ := List.mem_map.1 hz
    obtain ⟨r0, r1, r2, r3, r4, r5, r6, r7, r8⟩ := hy i (List.mem_range.1 hi)
    exact ⟨r7, r8, r6⟩

/-- [][]int -/
theorem arg_rows {r : Reach} {b0 : Nat} {t e q : TypeId} {v : Value} {d : DataW H} {p : List MemPlace} (ht : P.underlying t = some (.slice e)) (ce : P.cellsOf e = 1) (he : P.underlying e = some (.slice q)) (hq : P.underlying q = some (.int .i64)) (cq : P.cellsOf q = 1)
    (hv : Value.okWide P w r b0 t v) (h : DataW.Trod enc P w base (fun _ => true) held t v d p) : ∃ a n cap, ∃ l : List (List Int), v = .slice a n cap ∧ l.length = n ∧ n ≤ maxLen ∧ RowsAt w a l ∧ ∀ y ∈ l, ∀ z ∈ y, Fits64 z := by
  obtain ⟨a, n, cap, rfl⟩ := okWide_slice ht hv
  obtain ⟨fuel, hf⟩ := h
  rcases open_slice1 ht ce (by simpa [Value.cells] using hf) with ⟨hcs, _⟩ | ⟨x, len, c', m, nn, V, D, Pl, hcs, _, hl, hm, hmm, _, hx⟩
  · simp at hcs
    obtain ⟨rfl, rfl, rfl⟩ := hcs
    exact ⟨none, 0, 0, [], rfl, rfl, by decide, fun j hj => by simp at hj, fun y hy => by simp at hy⟩
  simp at hcs
  obtain ⟨rfl, rfl, rfl⟩ := hcs
  simp only [if_true] at hmm
  have each : ∀ i, i < n → ∃ y : List Int × Option Addr × Nat × Nat, w.cell? (x.add i) = some (.slice y.2.1 y.2.2.1 y.2.2.2) ∧ y.1.length = y.2.2.1 ∧ y.2.2.1 ≤ maxLen ∧ IntsAt w y.2.1 y.1 ∧ (∀ z ∈ y.1, Fits64 z) := by
    intro i hi
    obtain ⟨hc, t0⟩ := hx i (by omega)
    have hsl : ∃ ra rn rc, V i = .slice ra rn rc := by
      rcases open_ints he hq cq t0 with ⟨hcs, _⟩ | ⟨x, l, c, zs, hcs, _⟩
      · simp at hcs; exact ⟨_, _, _, hcs⟩
      · simp at hcs; exact ⟨_, _, _, hcs⟩
    obtain ⟨ra, rn, rc, hV⟩ := hsl
    rw [hV] at hc t0
    obtain ⟨l, q1, q2, q3, q4⟩ := ints_opened he hq cq t0
    exact ⟨(l, ra, rn, rc), hc, q1, q2, q3, q4⟩
  haveI : Inhabited (List Int × Option Addr × Nat × Nat) := ⟨([], none, 0, 0)⟩
  obtain ⟨y, hy⟩ := choose_lt each
  refine ⟨some x, n, cap, (List.range n).map fun i => (y i).1, rfl, by simp, by omega, fun j hj => ?_, fun z hz => ?_⟩
  · have hjn : j < n := by simpa using hj
    have hp := cell_plain (hy 0 (by omega)).1
    simp only [Addr.add, if_true] at hp
    obtain ⟨b, o, s⟩ := x
    have hs' : s = none := by have := hp.1; simp at this; exact this
    subst hs'
    obtain ⟨r0, r3, r4, r5, r6⟩ := hy j hjn
    rw [add_plain] at r0
    refine ⟨b, o, (y j).2.1, (y j).2.2.1, (y j).2.2.2, rfl, hp.2, r0, ?_, r4, ?_⟩ <;> simp only [List.getElem_map, List.getElem_range] <;> assumption
  · obtain ⟨i, hi, rfl⟩ := List.mem_map.1 hz
    exact (hy i (List.mem_range.1 hi)).2.2.2.2
end
end Go.Proofs.Ytfipebkhomppmaa

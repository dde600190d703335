/- What the listed tables give the walks; the arguments' readings of layer 9. -/
import Derived.Test.YthaampmdponhbaaGreatDoorOpen
import Derived.Test.YthaampmdponhbaaGreatDoorFltAB
import Derived.LaidMore
import Derived.LaidHandle
import Derived.MakeChecks
import Derived.Stop.LaidErr
import Derived.Lib.LaidTab
namespace Go.Proofs.YthaampmdponhbaaGreatDoor
open Go.ChangeShapes Go.WideShapes Go.ChangeAt Go.RowKit Go.Deep
set_option linter.unusedVariables false

abbrev laid3 : List (String × DataW Unit) := [("math/bits.deBruijn32tab", Rows.laid_math_bits_deBruijn32tab), ("math/bits.deBruijn64tab", Rows.laid_math_bits_deBruijn64tab), ("internal/strconv.uint64pow10", Rows.laid_internal_strconv_uint64pow10)]

theorem tab_type : (Tryz.prog.globals[5]?).map (·.type) = some 176 := by kernel_rfl
theorem tab_of_laid {W : World} (h : laidMetH Tryz.prog laid3 W) : Tab W := by
  rw [MakeChecks.laidMetH_plain _ _ _ (by kernel_rfl)] at h
  have h3 := (laidMet.tail (laidMet.tail h))
  have e : (Rows.laid_internal_strconv_uint64pow10 : DataW Unit) = Lib.tabData .u64 Lib.pow10Tab := by kernel_rfl
  rw [e] at h3
  exact Lib.tabIs_of_head tabNamed tab_type Tryz.underlying176 Tryz.underlying148 (by kernel_rfl) (by kernel_rfl) h3

section
variable {H : Type} {enc : TypeId × Value → H} {P : Program} {w : World} {base : Nat} {held : Bool}

/-- a fault: a struct of three ints -/
theorem arg_fault {r : Reach} {b0 : Nat} {t : TypeId} {f0 f1 f2 : Field} {v : Value} {d : DataW H} {p : List MemPlace} (hs : P.underlying t = some (.struct #[f0, f1, f2])) (hone : oneCellFields P #[f0, f1, f2] = true) (hC : P.cellsOf t = 3)
    (h0 : P.underlying f0.type = some (.int .i64)) (h1 : P.underlying f1.type = some (.int .i64)) (h2 : P.underlying f2.type = some (.int .i64)) (hv : Value.okWide P w r b0 t v) (h : DataW.Trod enc P w base (fun _ => true) held t v d p) :
    ∃ x : Flt, v = x.val ∧ Fits64 x.kind ∧ Fits64 x.row ∧ Fits64 x.pixel := by
  obtain ⟨v0, v1, v2, y0, y1, y2, n, rfl, _, _, k0, k1, k2⟩ := Go.Joins.open_agg3 hs hone hC hv h
  obtain ⟨z0, e0, _, w0⟩ := DataW.trod_int h0 k0
  obtain ⟨z1, e1, _, w1⟩ := DataW.trod_int h1 k1
  obtain ⟨z2, e2, _, w2⟩ := DataW.trod_int h2 k2
  simp at e0 e1 e2
  subst e0; subst e1; subst e2
  exact ⟨⟨z0, z1, z2⟩, rfl, fits64 w0, fits64 w1, fits64 w2⟩

/-- a test: a struct of two slices of ints -/
theorem arg_test {r : Reach} {b0 : Nat} {c q : TypeId} {f0 f1 : Field} {v : Value} {d : DataW H} {p : List MemPlace} (hs : P.underlying c = some (.struct #[f0, f1])) (hone : oneCellFields P #[f0, f1] = true) (hC : P.cellsOf c = 2)
    (he0 : P.underlying f0.type = some (.slice q)) (he1 : P.underlying f1.type = some (.slice q)) (hq : P.underlying q = some (.int .i64)) (cq : P.cellsOf q = 1)
    (hv : Value.okWide P w r b0 c v) (h : DataW.Trod enc P w base (fun _ => true) held c v d p) : ∃ y : Tst, TstV w v y ∧ (∀ z ∈ y.shown, Fits64 z) ∧ ∀ z ∈ y.read, Fits64 z := by
  obtain ⟨v0, v1, y0, y1, n, rfl, _, _, k0, k1⟩ := Go.Joins.open_agg2 hs hone hC hv h
  have hsl : ∀ {e : TypeId} (he : P.underlying e = some (.slice q)) {v0 : Value} {x : DataW H × List MemPlace}, DataW.trod enc P w base (fun _ => true) held n e [v0] = some x → ∃ ra rn rc, v0 = .slice ra rn rc := by
    intro e he v0 x k0
    rcases open_ints he hq cq k0 with ⟨hcs, _⟩ | ⟨x, l, c, zs, hcs, _⟩
    · simp at hcs; exact ⟨_, _, _, hcs⟩
    · simp at hcs; exact ⟨_, _, _, hcs⟩
  obtain ⟨sa, sn, sc, rfl⟩ := hsl he0 k0
  obtain ⟨ra, rn, rc, rfl⟩ := hsl he1 k1
  obtain ⟨l0, p1, p2, p3, p4⟩ := ints_opened he0 hq cq k0
  obtain ⟨l1, q1, q2, q3, q4⟩ := ints_opened he1 hq cq k1
  exact ⟨⟨l0, l1⟩, ⟨sa, sn, sc, ra, rn, rc, rfl, p1, p2, p3, q1, q2, q3⟩, p4, q4⟩

/-- tests -/
theorem arg_tests {r : Reach} {b0 : Nat} {t c q : TypeId} {f0 f1 : Field} {v : Value} {d : DataW H} {p : List MemPlace} (ht : P.underlying t = some (.slice c)) (hs : P.underlying c = some (.struct #[f0, f1])) (hone : oneCellFields P #[f0, f1] = true) (hC : P.cellsOf c = 2)
    (he0 : P.underlying f0.type = some (.slice q)) (he1 : P.underlying f1.type = some (.slice q)) (hq : P.underlying q = some (.int .i64)) (cq : P.cellsOf q = 1)
    (hv : Value.okWide P w r b0 t v) (h : DataW.Trod enc P w base (fun _ => true) held t v d p) : ∃ a n cap, ∃ l : List Tst, v = .slice a n cap ∧ l.length = n ∧ n ≤ maxLen ∧ TestsAt w a l ∧ ∀ y ∈ l, (∀ z ∈ y.shown, Fits64 z) ∧ ∀ z ∈ y.read, Fits64 z := by
  obtain ⟨a, n, cap, rfl⟩ := okWide_slice ht hv
  obtain ⟨fuel, hf⟩ := h
  rcases open_slice ht (by simpa [Value.cells] using hf) with ⟨hcs, _⟩ | ⟨x, len, c', m, nn, D, Pl, hcs, _, hl, hm, hmm, _, hx⟩
  · simp at hcs
    obtain ⟨rfl, rfl, rfl⟩ := hcs
    exact ⟨none, 0, 0, [], rfl, rfl, by decide, fun j hj => by simp at hj, fun y hy => by simp at hy⟩
  simp at hcs
  obtain ⟨rfl, rfl, rfl⟩ := hcs
  simp only [if_true] at hmm
  obtain ⟨o0, k0⟩ := hone_of hone 0 f0 rfl
  obtain ⟨o1, k1⟩ := hone_of hone 1 f1 rfl
  have hsl : ∀ {fuel : Nat} {e : TypeId} (he : P.underlying e = some (.slice q)) {v0 : Value} {x : DataW H × List MemPlace}, DataW.trod enc P w base (fun _ => true) held fuel e [v0] = some x → ∃ ra rn rc, v0 = .slice ra rn rc := by
    intro fuel e he v0 x k0
    rcases open_ints he hq cq k0 with ⟨hcs, _⟩ | ⟨x, l, c, zs, hcs, _⟩
    · simp at hcs; exact ⟨_, _, _, hcs⟩
    · simp at hcs; exact ⟨_, _, _, hcs⟩
  have each : ∀ i, i < n → ∃ y : Tst × (Option Addr × Nat × Nat) × (Option Addr × Nat × Nat), w.cell? (x.add (i * 2)) = some (.slice y.2.1.1 y.2.1.2.1 y.2.1.2.2) ∧ w.cell? ((x.add (i * 2)).add 1) = some (.slice y.2.2.1 y.2.2.2.1 y.2.2.2.2) ∧
      y.1.shown.length = y.2.1.2.1 ∧ y.2.1.2.1 ≤ maxLen ∧ IntsAt w y.2.1.1 y.1.shown ∧ (∀ z ∈ y.1.shown, Fits64 z) ∧ y.1.read.length = y.2.2.2.1 ∧ y.2.2.2.1 ≤ maxLen ∧ IntsAt w y.2.2.1 y.1.read ∧ (∀ z ∈ y.1.read, Fits64 z) := by
    intro i hi
    obtain ⟨cs', hc, htr⟩ := hx i (by omega)
    rw [hC] at hc
    obtain ⟨_, hlen, hcell⟩ := World.cells?_some hc
    match cs', hlen with
    | [c0, c1], _ =>
      obtain ⟨y0, y1, n', _, _, t0, t1⟩ := trod_struct2 hs htr
      rw [o0, k0] at t0
      rw [o1, k1] at t1
      simp at t0 t1
      obtain ⟨sa, sn, sc, rfl⟩ := hsl he0 t0
      obtain ⟨ra, rn, rc, rfl⟩ := hsl he1 t1
      obtain ⟨l0, p1, p2, p3, p4⟩ := ints_opened he0 hq cq t0
      obtain ⟨l1, q1, q2, q3, q4⟩ := ints_opened he1 hq cq t1
      have hc0 := hcell 0 (by omega)
      rw [show (x.add (i * 2)).add 0 = x.add (i * 2) from rfl] at hc0
      exact ⟨(⟨l0, l1⟩, (sa, sn, sc), (ra, rn, rc)), by simpa using hc0, by simpa using hcell 1 (by omega), p1, p2, p3, p4, q1, q2, q3, q4⟩
  haveI : Inhabited (Tst × (Option Addr × Nat × Nat) × (Option Addr × Nat × Nat)) := ⟨(⟨[], []⟩, (none, 0, 0), (none, 0, 0))⟩
  obtain ⟨y, hy⟩ := choose_lt each
  refine ⟨some x, n, cap, (List.range n).map fun i => (y i).1, rfl, by simp, by omega, fun j hj => ?_, fun z hz => ?_⟩
  · have hjn : j < n := by simpa using hj
    have hp := cell_plain (hy 0 (by omega)).1
    simp only [Addr.add, Nat.zero_mul, if_true] at hp
    obtain ⟨b, o, s⟩ := x
    have hs' : s = none := by have := hp.1; simp at this; exact this
    subst hs'
    obtain ⟨r0, r1, r3, r4, r5, r6, r7, r8, r9, r10⟩ := hy j hjn
    rw [add_plain] at r0 r1
    rw [add_plain] at r1
    refine ⟨b, o, (y j).2.1.1, (y j).2.1.2.1, (y j).2.1.2.2, (y j).2.2.1, (y j).2.2.2.1, (y j).2.2.2.2, rfl, hp.2, r0, r1, ?_, r4, ?_, ?_, r8, ?_⟩ <;> simp only [List.getElem_map, List.getElem_range] <;> assumption
  · obtain ⟨i, hi, rfl⟩ := List.mem_map.1 hz
    obtain ⟨r0, r1, r3, r4, r5, r6, r7, r8, r9, r10⟩ := hy i (List.mem_range.1 hi)
    exact ⟨r6, r10⟩
end
end Go.Proofs.YthaampmdponhbaaGreatDoor

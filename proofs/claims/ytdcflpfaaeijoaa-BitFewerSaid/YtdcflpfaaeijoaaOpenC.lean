/- From the reading of a cell (a struct of a slice and two ints) to the fact that the walks take. -/
import Derived.Test.YtdcflpfaaeijoaaOpen
namespace Go.Proofs.Ytdcflpfaaeijoaa
open Go.ChangeShapes Go.WideShapes Go.ChangeAt Go.RowKit Go.Deep
set_option linter.unusedVariables false

section
variable {H : Type} {enc : TypeId × Value → H} {P : Program} {w : World} {base : Nat} {held : Bool}
theorem arg_cell {r : Reach} {b0 : Nat} {c e q : TypeId} {f0 f1 f2 : Field} {v : Value} {d : DataW H} {p : List MemPlace} (hs : P.underlying c = some (.struct #[f0, f1, f2])) (hone : oneCellFields P #[f0, f1, f2] = true) (hC : P.cellsOf c = 3)
    (h0 : f0.type = e) (he : P.underlying e = some (.slice q)) (hq : P.underlying q = some (.int .i64)) (cq : P.cellsOf q = 1) (h1 : P.underlying f1.type = some (.int .i64)) (h2 : P.underlying f2.type = some (.int .i64))
    (hv : Value.okWide P w r b0 c v) (h : DataW.Trod enc P w base (fun _ => true) held c v d p) : ∃ y : Cel, CelV w v y ∧ Fits64 y.lo ∧ Fits64 y.hi ∧ ∀ z ∈ y.row, Fits64 z := by
  obtain ⟨v0, v1, v2, y0, y1, y2, n, rfl, _, _, k0, k1, k2⟩ := Go.Joins.open_agg3 hs hone hC hv h
  obtain ⟨z1, e1, _, w1⟩ := DataW.trod_int h1 k1
  obtain ⟨z2, e2, _, w2⟩ := DataW.trod_int h2 k2
  simp at e1 e2
  subst e1; subst e2
  rw [h0] at k0
  have hsl : ∃ ra rn rc, v0 = .slice ra rn rc := by
    rcases open_ints he hq cq k0 with ⟨hcs, _⟩ | ⟨x, l, c, zs, hcs, _⟩
    · simp at hcs; exact ⟨_, _, _, hcs⟩
    · simp at hcs; exact ⟨_, _, _, hcs⟩
  obtain ⟨ra, rn, rc, rfl⟩ := hsl
  obtain ⟨l, q1, q2, q3, q4⟩ := ints_opened he hq cq k0
  exact ⟨⟨l, z1, z2⟩, ⟨ra, rn, rc, rfl, q1, q2, q3⟩, fits64 w1, fits64 w2, q4⟩
end
end Go.Proofs.Ytdcflpfaaeijoaa

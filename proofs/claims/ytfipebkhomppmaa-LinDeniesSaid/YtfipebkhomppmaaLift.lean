/- Drawn regions whose calls may leave new blocks behind them: a class of worlds for 'wp_region_quiet'. -/
import Derived.Test.YtfipebkhomppmaaBase
import Derived.BigQuiet
namespace Go.Proofs.Ytfipebkhomppmaa
open Go.RowKit
set_option linter.unusedVariables false

open Classical in
/-- a world that has kept all that was in W: X if it has, else W -/
noncomputable def lift (W X : World) : World := if Below W.heap.size W X then X else W
theorem lift_below (W X : World) : Below W.heap.size W (lift W X) := by
  unfold lift; split
  · assumption
  · exact Below.refl _ _
theorem lift_of {W X : World} (h : Below W.heap.size W X) : X = lift W X := by unfold lift; rw [if_pos h]
theorem lift_cell {W : World} {b o : Nat} {v : Value} (hb : b < W.heap.size) (h : W.cell? ⟨b, o, none⟩ = some v) : ∀ X, (lift W X).cell? ⟨b, o, none⟩ = some v := fun X => ((lift_below W X).cell (p := ⟨b, o, none⟩) hb).trans h

theorem lift_calls {P : Program} {f : FuncId} {args : Array Value} {W X : World} {v : Value} (h : Calls P f args (lift W X) fun e w' => e = .returned v ∧ Below (lift W X).heap.size (lift W X) w') :
    Calls P f args (lift W X) fun e w'' => e = .returned v ∧ ∃ Y, w'' = lift W Y :=
  h.mono fun e w' ⟨he, hb⟩ => ⟨he, w', lift_of (chain (lift_below W X) hb)⟩

theorem region_lift {P : Program} {id : Nat} {Q : Exit → Act → World → Prop} {a : Act} {w : World} {l : List Oper} (hm : P.follows .mixedOrders = true) (hB : Region.lexB .any l.toArray = true)
    (h : wpQuiet P l.toArray (fun w' => ∃ X, w' = lift w X) (fun a' => ∀ w', (∃ X, w' = lift w X) → Q .normal a' w') l a) : (Code.region id l.toArray true).wp P Q a w :=
  wp_region_quiet (C := fun w' => ∃ X, w' = lift w X) hm hB ⟨_, lift_of (⟨rfl, rfl, rfl, Nat.le_refl _, fun _ _ => rfl⟩ : Below w.heap.size w { w with drawn := w.drawn + 1 })⟩ (by simpa using h)
end Go.Proofs.Ytfipebkhomppmaa

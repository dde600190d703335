/- A drawn region: an operation that is taken first, its place told as a number. -/
import Derived.Test.YtfipebkhomppmaaHeld
namespace Go.Proofs.Ytfipebkhomppmaa
open Go.RowKit
set_option linter.unusedVariables false

/-- behind every operation -/
def wAll (_ : Nat) : Bool := true

theorem AnyT.takeD {P : Program} {md : Region.Mode} {ops : Array Oper} {Q : Exit → Act → World → Prop} {S : World → Prop} {i d : Nat} {oi : Oper} {v : Value} {fuel : Nat} {listed : Array Bool} {a : Act} {w : World} {Wf : Nat → Bool} (hi : ops[i]? = some oi) (hd : oi.dst = some d)
    (hs : Region.noSelect ops = true) (hf : Region.free md ops listed i = true) (hr : (Region.ready md ops listed).contains i = true)
    (hQ : ∀ c a w, Q (.panic c) (a.put (some d) v) w → Q (.panic c) a w)
    (hW : (List.range ops.size).all (fun j => waits md ops i j || Wf j) = true) (hw : Region.wanted oi (yielded ops a.tmps) = true) (hy : ∀ w, S w → (execOp a.eval oi).run P w = .ok (.value v) w) (hS : S w)
    (h : AnyT P md ops Q (fun j w => Wf j = true → S w) fuel (listed.setIfInBounds i true) (a.put (some d) v) w) : AnyT P md ops Q (fun j w => Wf j = true → S w) (fuel + 1) listed a w :=
  AnyT.takeW hi hs hf hr (by rw [hd]; exact hQ) hW hw hy hS (by rw [hd]; exact h)
end Go.Proofs.Ytfipebkhomppmaa

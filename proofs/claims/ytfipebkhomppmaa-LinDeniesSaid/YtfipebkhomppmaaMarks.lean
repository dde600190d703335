/- Marks of ranges over functions on an activation that holds several of them (a range inside a loop): how it leaves. -/
import Derived.Test.YtfipebkhomppmaaRange
namespace Go.Proofs.Ytfipebkhomppmaa
open Go.RowKit
set_option linter.unusedVariables false

/-- marks, all of blocks from b on and below top, all empty -/
def Marks (b : Nat) : Nat → List Deferred → World → Prop
  | _, [], _ => True
  | top, d :: ds, w => ∃ h, b ≤ h ∧ h < top ∧ d = { target := .collected h, args := #[] } ∧ w.heap[h]? = some (.deferred (some [])) ∧ Marks b h ds w

theorem Marks.keep {b : Nat} {S : Nat → Prop} {A B : World} (hk : Keep S A B) : ∀ {top : Nat} {D : List Deferred}, (∀ k, k < A.heap.size → b ≤ k → k < top → A.heap[k]? = some (.deferred (some [])) → S k) → Marks b top D A → Marks b top D B
  | _, [], _, _ => trivial
  | top, d :: ds, hS, h => by
    obtain ⟨k, h1, h2, h3, h4, h5⟩ := h
    have hlt := (Array.getElem?_eq_some_iff.1 h4).1
    exact ⟨k, h1, h2, h3, (hk.block k hlt (hS k hlt h1 h2 h4)).trans h4, Marks.keep hk (fun q hq hb hqk => hS q hq hb (by omega)) h5⟩
theorem Marks.lt {b : Nat} {A : World} : ∀ {top : Nat} {D : List Deferred}, Marks b top D A → Marks b A.heap.size D A
  | _, [], _ => trivial
  | top, d :: ds, ⟨k, h1, h2, h3, h4, h5⟩ => ⟨k, h1, (Array.getElem?_eq_some_iff.1 h4).1, h3, h4, h5⟩
theorem Marks.up {b top t2 : Nat} {D : List Deferred} {A : World} (h : Marks b top D A) (ht : top ≤ t2) : Marks b t2 D A := by
  cases D with
  | nil => trivial
  | cons d ds =>
    obtain ⟨k, h1, h2, h3⟩ := h
    exact ⟨k, h1, by omega, h3⟩
theorem Marks.below {b k top : Nat} {D : List Deferred} {A : World} (hk : top ≤ k) : ∀ (o : Obj), Marks b top D A → Marks b top D (A.putObj k o) := fun o h => by
  induction D generalizing top with
  | nil => trivial
  | cons d ds ih =>
    obtain ⟨q, h1, h2, h3, h4, h5⟩ := h
    exact ⟨q, h1, h2, h3, (World.putObj_heap_other (by omega)).trans h4, ih (by omega) h5⟩

theorem Marks.leave {F : Fence} {n : Nat} {P : Program} {fn : Func} {tmps : Array Value} {R : Ending → World → Prop} {b : Nat} : ∀ (D : List Deferred) (top : Nat) (w : World), Marks b top D w →
    (∀ w', Keep (fun k => k < b ∨ w.heap[k]? ≠ some (.deferred (some []))) w w' → LeavesIn F n P fn tmps R [] .returning w') → LeavesInM F n P fn tmps R D .returning w
  | [], _, w, _, h => h w (Keep.refl _ _)
  | d :: ds, top, w, ⟨k, h1, h2, h3, h4, h5⟩, h => by
    refine ⟨by simp, .inl ⟨k, _, by rw [h3], run_takeDeferred h4, ?_⟩⟩
    refine Marks.leave ds k _ (Marks.below (Nat.le_refl _) _ h5) fun w' hk => h w' ?_
    have hp := Keep.put w k (.deferred none)
    refine ⟨hk.os.trans hp.os, hk.tape.trans hp.tape, hk.output.trans hp.output, Nat.le_trans hp.size hk.size, fun i hi hs => ?_⟩
    have hne : i ≠ k := by
      rintro rfl
      rcases hs with hs | hs
      · omega
      · exact hs h4
    have e1 : (w.putObj k (.deferred none)).heap[i]? = w.heap[i]? := World.putObj_heap_other hne
    refine (hk.block i (Nat.lt_of_lt_of_le hi hp.size) ?_).trans e1
    rcases hs with hs | hs
    · exact .inl hs
    · exact .inr (by rw [e1]; exact hs)
end Go.Proofs.Ytfipebkhomppmaa

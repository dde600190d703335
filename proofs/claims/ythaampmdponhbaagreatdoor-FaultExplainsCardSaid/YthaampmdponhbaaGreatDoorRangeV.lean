/- A range over a function whose iterator hands out values of its own making and otherwise only makes new blocks. -/
import Derived.Test.YthaampmdponhbaaGreatDoorRange
namespace Go.Proofs.YthaampmdponhbaaGreatDoor
open Go.RowKit
set_option linter.unusedVariables false

/-- what such an iterator promises: it hands out xs, one after another -/
def IterVals (P : Program) (g : Nat) (lb : Array Value) (xs : List Value) (fp : Nat → Prop) (w0 : World) : Prop :=
  ∀ (l : Nat) (J Jx : List Value → World → Prop) (W : World), Below w0.heap.size w0 W →
    (∀ s A B, J s A → Below A.heap.size A B → J s B) →
    (∀ pre x W1, pre ++ [x] <+: xs → J pre W1 →
      YieldAt Fence.wide 0 P l #[x] W1 fun e W' =>
        (e = .returned (.bool true) ∧ J (pre ++ [x]) W' ∧ W1.heap.size ≤ W'.heap.size ∧ (∀ k, fp k → W'.heap[k]? = W1.heap[k]?)) ∨ (e = .returned (.bool false) ∧ Jx (pre ++ [x]) W')) →
    J [] W →
    CallsIn Fence.wide 0 P g (#[.func (.yield l) #[] #[]] ++ lb) W fun e W' => (∃ v, e = .returned v) ∧ (J xs W' ∨ (∃ pre, pre <+: xs ∧ Jx pre W'))

/-- what the body of a round owes, by the way in which it is left -/
def roundEndV (S : Nat → Prop) (I : List Value → World → Prop) (Ix : Code → List Value → World → Prop) (xs : List Value) (W : World) : Exit → Act → World → Prop
  | .normal, _, W' => W.heap.size ≤ W'.heap.size ∧ (∀ k, S k → W'.heap[k]? = W.heap[k]?) ∧ I xs W'
  | .ret, _, W' => W.heap.size ≤ W'.heap.size ∧ (∀ k, S k → W'.heap[k]? = W.heap[k]?) ∧ Ix .ret xs W'
  | .exit id, _, W' => W.heap.size ≤ W'.heap.size ∧ (∀ k, S k → W'.heap[k]? = W.heap[k]?) ∧ Ix (.exit id) xs W'
  | .goto t, _, W' => W.heap.size ≤ W'.heap.size ∧ (∀ k, S k → W'.heap[k]? = W.heap[k]?) ∧ Ix (.goto t) xs W'
  | .panic _, _, _ => False
  | .outgrown, _, _ => False

theorem range_vals {P : Program} {g : Operand} {p : Tmp} {assign body : Code} {Q : Exit → Act → World → Prop} {a : Act} {w : World}
    {gf : Nat} {lb : Array Value} (hg : a.eval g = .func (.func gf) #[] lb) (eg : ∀ args w, (callFunc gf args).run P w = .ok (.enter gf args) w)
    {xs : List Value} {fp : Nat → Prop} {w0 : World} (hseq : IterVals P gf lb xs fp w0) (hb0 : Below w0.heap.size w0 w) (hfp : ∀ k, fp k → k < w.heap.size)
    (I : List Value → World → Prop) (Ix : Code → List Value → World → Prop)
    (hI : ∀ s A B, I s A → w.heap.size + 2 ≤ A.heap.size → Keep (fun k => k ≠ w.heap.size ∧ k ≠ w.heap.size + 1) A B → I s B)
    (hIx : ∀ c s A B, Ix c s A → Keep (fun k => k ≠ w.heap.size ∧ k ≠ w.heap.size + 1) A B → Ix c s B)
    (h0 : ∀ W, Keep (fun k => k < w.heap.size) w W → w.heap.size + 2 ≤ W.heap.size → I [] W) (Ax : Value → Act → World → Prop)
    (hAx : ∀ x a' A B, Ax x a' A → Keep (fun k => k ≠ w.heap.size ∧ k ≠ w.heap.size + 1) A B → Ax x a' B)
    (hassign : ∀ (l : Nat) (pre : List Value) (x : Value) (W : World) (K : Act → World → Prop), pre ++ [x] <+: xs → w.heap.size + 2 ≤ W.heap.size → (∀ a' W', Below W.heap.size W W' → Ax x a' W' → K a' W') →
      assign.wpIn (Fence.wide.inRound l) 0 P (Exit.then K (fun _ _ _ => False)) { tmps := a.tmps.setIfInBounds p x, defers := [] } W)
    (hbody : ∀ (l : Nat) (pre : List Value) (x : Value) (a' : Act) (W : World), pre ++ [x] <+: xs → I pre W → Ax x a' W → w.heap.size + 2 ≤ W.heap.size →
      (∃ o, W.heap[w.heap.size]? = some o ∧ o.isCells = false) → (∃ o, W.heap[w.heap.size + 1]? = some o ∧ o.isCells = false) →
      body.wpIn (Fence.wide.inRound l) 0 P (roundEndV (fun k => fp k ∨ k = w.heap.size ∨ k = w.heap.size + 1) I Ix (pre ++ [x]) W) a' W)
    (hdone : ∀ (W : World), I xs W → W.heap[w.heap.size]? = some (.deferred (some [])) → Q .normal { a with defers := { target := .collected w.heap.size, args := #[] } :: a.defers } W)
    (hstop : ∀ (c : Code) (pre : List Value) (W : World), pre <+: xs → Ix c pre W → W.heap[w.heap.size]? = some (.deferred (some [])) → c.wpIn Fence.wide 0 P Q { a with defers := { target := .collected w.heap.size, args := #[] } :: a.defers } W) :
    (Code.rangeFunc g #[p] assign body).wpIn Fence.wide 0 P Q a w := by
  refine wpIn_rangeFunc ?_
  intro fn hfn
  obtain ⟨rec, hrec⟩ : ∃ rec : LoopState → Option Code → Loop, rec = fun st pe => { state := st, pending := pe, fn, tmps := a.tmps, params := #[p], assign, body, defers := w.heap.size } := ⟨_, rfl⟩
  obtain ⟨W1, hW1⟩ : ∃ W1, (w.alloc (.deferred (some []))).alloc (.loop (rec .ready none)) = W1 := ⟨_, rfl⟩
  have hsz1 : W1.heap.size = w.heap.size + 2 := by rw [← hW1]; simp
  have hL1 : W1.heap[w.heap.size + 1]? = some (.loop (rec .ready none)) := by
    rw [← hW1]; have := World.alloc_heap_new (w.alloc (.deferred (some []))) (.loop (rec .ready none)); rwa [World.size_alloc] at this
  have hK1 : W1.heap[w.heap.size]? = some (.deferred (some [])) := by
    rw [← hW1]; exact (Below.heap_alloc _ _ _ (by simp)).trans (World.alloc_heap_new w _)
  have hbw : Below w.heap.size w W1 := by rw [← hW1]; exact ((Below.refl _ w).alloc (Nat.le_refl _) _).alloc (by simp) _
  refine ⟨w.heap.size + 1, [{ target := .collected w.heap.size, args := #[] }], W1, { target := .fn (.func gf) lb, args := #[.func (.yield (w.heap.size + 1)) #[] #[]] }, W1, gf,
    #[.func (.yield (w.heap.size + 1)) #[] #[]] ++ lb, W1, ?_, ?_, ?_, ?_, fun h => by simp [Fence.wide] at h, ?_⟩
  · rw [← hW1, hrec]; exact run_enterLoop_outer _ _ _ _ _
  · simp only [resolve, hg]
    simp [go_sem]
  · intro f' hf'; exact trivial
  · simp [invoke, go_sem, eg]
  · refine (hseq (w.heap.size + 1)
      (fun pre W => (I pre W ∧ w.heap.size + 2 ≤ W.heap.size) ∧ W.heap[w.heap.size + 1]? = some (.loop (rec .ready none)) ∧ W.heap[w.heap.size]? = some (.deferred (some [])))
      (fun pre W => ∃ c, Ix c pre W ∧ W.heap[w.heap.size + 1]? = some (.loop (rec .done (some c))) ∧ W.heap[w.heap.size]? = some (.deferred (some [])))
      W1 (chain hb0 hbw) ?_ ?_ ?_).mono ?_
    · rintro s A B ⟨⟨hi, hsA⟩, hl, hk⟩ hAB
      exact ⟨⟨hI s A B hi hsA (Keep.of_below hAB), Nat.le_trans hsA hAB.size⟩, (hAB.block _ (Array.getElem?_eq_some_iff.1 hl).1).trans hl, (hAB.block _ (Array.getElem?_eq_some_iff.1 hk).1).trans hk⟩
    · rintro pre x W hpre ⟨⟨hi, hsW⟩, hl, hk⟩
      have hlt : w.heap.size + 1 < W.heap.size := (Array.getElem?_eq_some_iff.1 hl).1
      have hy := run_yield (P := P) (args := #[x]) hl (by rw [hrec]; simp)
      rw [hrec] at hy
      have hy' : (Instr.yield (w.heap.size + 1) #[x]).run P W = .ok (.round (w.heap.size + 1) fn (a.tmps.setIfInBounds p x) assign body) W := by
        simpa using hy
      refine ⟨fn, _, assign, body, hy', roundIn_of_wpIn hfn ?_⟩
      refine hassign _ pre x W _ hpre hsW ?_
      intro a' W' hbW' hax
      have hlW' : W'.heap[w.heap.size + 1]? = some (.loop (rec .ready none)) := (hbW'.block _ hlt).trans hl
      have hkW' : W'.heap[w.heap.size]? = some (.deferred (some [])) := (hbW'.block _ (by omega)).trans hk
      have hltW' : w.heap.size + 1 < W'.heap.size := by have := hbW'.size; omega
      refine ⟨_, run_beginRound hlW' (by rw [hrec]), ?_⟩
      have hl2 : (W'.putObj (w.heap.size + 1) (.loop { rec .ready none with state := .busy })).heap[w.heap.size + 1]? = some (.loop { rec .ready none with state := .busy }) := World.putObj_heap_same hltW'
      have hkp := Keep.put W' (w.heap.size + 1) (.loop { rec .ready none with state := .busy })
      have hkp2 : Keep (fun k => k ≠ w.heap.size ∧ k ≠ w.heap.size + 1) W' _ := hkp.mono fun k hk => hk.2
      refine wpIn_mono (hbody _ pre x a' _ hpre (hI pre _ _ (hI pre _ _ hi hsW (Keep.of_below hbW')) (Nat.le_trans hsW hbW'.size) hkp2) (hAx _ _ _ _ hax hkp2) (Nat.le_trans (Nat.le_trans hsW hbW'.size) hkp.size) ⟨_, (World.putObj_heap_other (by omega)).trans hkW', rfl⟩ ⟨_, hl2, rfl⟩) ?_
      have fin : ∀ (jump : Option Code) (W3 : World), (∀ k, (fp k ∨ k = w.heap.size ∨ k = w.heap.size + 1) → W3.heap[k]? = (W'.putObj (w.heap.size + 1) (.loop { rec .ready none with state := .busy })).heap[k]?) →
          (Instr.endRound (w.heap.size + 1) jump).run P W3 = .ok (.bool jump.isNone) (W3.putObj (w.heap.size + 1) (.loop (rec (if jump.isNone then .ready else .done) jump))) ∧
          W3.heap[w.heap.size + 1]? = some (.loop { rec .ready none with state := .busy }) ∧
          (W3.putObj (w.heap.size + 1) (.loop (rec (if jump.isNone then .ready else .done) jump))).heap[w.heap.size + 1]? = some (.loop (rec (if jump.isNone then .ready else .done) jump)) ∧
          (W3.putObj (w.heap.size + 1) (.loop (rec (if jump.isNone then .ready else .done) jump))).heap[w.heap.size]? = some (.deferred (some [])) := fun jump W3 hk3 => by
        have hl3 := (hk3 (w.heap.size + 1) (by simp)).trans hl2
        have := run_endRound (P := P) jump hl3
        rw [hrec] at this ⊢
        refine ⟨this, by rw [hrec] at hl3; exact hl3, World.putObj_heap_same (Array.getElem?_eq_some_iff.1 hl3).1, (World.putObj_heap_other (by omega)).trans ((hk3 w.heap.size (by simp)).trans ((World.putObj_heap_other (by omega)).trans hkW'))⟩
      rintro e a3 W3 hp
      have keepP : ∀ (o : Obj), Keep (fun k => k ≠ w.heap.size ∧ k ≠ w.heap.size + 1) W3 (W3.putObj (w.heap.size + 1) o) := fun o => (Keep.put W3 (w.heap.size + 1) o).mono fun k hk => hk.2
      cases e with
      | normal =>
        obtain ⟨hs3, hk3, hi3⟩ := hp
        obtain ⟨hr, hl3, hl4, hk4⟩ := fin none W3 hk3
        have hs3' : W.heap.size ≤ W3.heap.size := Nat.le_trans (Nat.le_trans hbW'.size hkp.size) hs3
        refine ⟨_, _, hr, .inl ⟨rfl, ⟨⟨hI _ _ _ hi3 (Nat.le_trans hsW hs3') (keepP _), Nat.le_trans (Nat.le_trans hsW hs3') (keepP _).size⟩, hl4, hk4⟩, ?_, ?_⟩⟩
        · exact Nat.le_trans hs3' (keepP _).size
        · intro k hk
          have hne : k ≠ w.heap.size + 1 := by have := hfp k hk; omega
          exact (World.putObj_heap_other hne).trans ((hk3 k (by simp [hk])).trans ((World.putObj_heap_other hne).trans (hbW'.block k (by have := hfp k hk; omega))))
      | ret =>
        obtain ⟨hs3, hk3, hi3⟩ := hp
        obtain ⟨hr, hl3, hl4, hk4⟩ := fin (some .ret) W3 hk3
        exact ⟨_, _, hr, .inr ⟨rfl, .ret, hIx _ _ _ _ hi3 (keepP _), hl4, hk4⟩⟩
      | exit id =>
        obtain ⟨hs3, hk3, hi3⟩ := hp
        obtain ⟨hr, hl3, hl4, hk4⟩ := fin (some (.exit id)) W3 hk3
        exact ⟨_, _, hr, .inr ⟨rfl, .exit id, hIx _ _ _ _ hi3 (keepP _), hl4, hk4⟩⟩
      | goto t =>
        obtain ⟨hs3, hk3, hi3⟩ := hp
        obtain ⟨hr, hl3, hl4, hk4⟩ := fin (some (.goto t)) W3 hk3
        exact ⟨_, _, hr, .inr ⟨rfl, .goto t, hIx _ _ _ _ hi3 (keepP _), hl4, hk4⟩⟩
      | panic ch => exact hp.elim
      | outgrown => exact hp.elim
    · exact ⟨⟨h0 W1 (Keep.of_below hbw) (by omega), by omega⟩, hL1, hK1⟩
    · rintro e W2 ⟨⟨v, rfl⟩, (⟨⟨hi, hs2⟩, hl, hk⟩ | ⟨pre, hSp, c, hi, hl, hk⟩)⟩
      · refine ⟨none, _, by have := run_endLoop (P := P) hl (by rw [hrec]; simp); rw [hrec] at this; exact this, hdone _ (hI _ _ _ hi hs2 ((Keep.put W2 _ _).mono fun k hk => hk.2)) ((World.putObj_heap_other (by omega)).trans hk)⟩
      · refine ⟨some c, _, by have := run_endLoop (P := P) hl (by rw [hrec]; simp); rw [hrec] at this; exact this, hstop c pre _ hSp (hIx _ _ _ _ hi ((Keep.put W2 _ _).mono fun k hk => hk.2)) ((World.putObj_heap_other (by omega)).trans hk)⟩
end Go.Proofs.YthaampmdponhbaaGreatDoor

/- Walks and plain laws for LinMakesRow, part 2. -/
import Derived.RangeFuncNested
import Derived.RangeFuncBound
import Derived.RangeFuncCalls
import Derived.RangeFuncLeaves
import Derived.Shelf.RegionOpen
import Derived.OwnWalkIn
import Derived.TacticsInMore
import Derived.LoopNIn
import Derived.LoopIn
import Derived.Laws.EntriesVeiled
import Derived.Laws.AppendOwnNone
import Derived.IntWalk
import Derived.Deep.RegionHeld3
import Derived.StillTailTactics
import Derived.Test.YtfipebkhomppmaaPkLinMakesRow1
namespace Go.Proofs.Ytfipebkhomppmaa
open Go.RowKit
set_option linter.unusedVariables false

structure Keep (S : Nat → Prop) (A B : World) : Prop where
  os : B.os = A.os
  tape : B.tape = A.tape
  output : B.output = A.output
  size : A.heap.size ≤ B.heap.size
  block : ∀ k, k < A.heap.size → S k → B.heap[k]? = A.heap[k]?

theorem Keep.refl (S : Nat → Prop) (A : World) : Keep S A A := ⟨rfl, rfl, rfl, Nat.le_refl _, fun _ _ _ => rfl⟩
theorem Keep.trans {S : Nat → Prop} {A B C : World} (h : Keep S A B) (k : Keep S B C) : Keep S A C :=
  ⟨k.os.trans h.os, k.tape.trans h.tape, k.output.trans h.output, Nat.le_trans h.size k.size, fun i hi hs => (k.block i (Nat.lt_of_lt_of_le hi h.size) hs).trans (h.block i hi hs)⟩
theorem Keep.drewN {S : Nat → Prop} {A B : World} (h : Keep S A B) (n : Nat) : Keep S A (B.drewN n) := ⟨h.os, h.tape, h.output, h.size, h.block⟩
theorem Keep.mono {S T : Nat → Prop} {A B : World} (h : Keep S A B) (hs : ∀ k, T k → S k) : Keep T A B := ⟨h.os, h.tape, h.output, h.size, fun k hk ht => h.block k hk (hs k ht)⟩
theorem Keep.of_below {S : Nat → Prop} {A B : World} (h : Below A.heap.size A B) : Keep S A B := ⟨h.os, h.tape, h.output, h.size, fun k hk _ => h.block k hk⟩
theorem Keep.grown {A B : World} {row : Option Nat} (h : A.grownBy B row) : Keep (fun k => some k ≠ row) A B := ⟨h.os, h.tape, h.output, h.size, fun k hk hs => h.block k hk hs⟩
theorem Keep.put (A : World) (l : Nat) (o : Obj) : Keep (fun k => k ≠ l) A (A.putObj l o) := (Keep.grown (grownBy_putObj' A l o)).mono fun k hk e => hk (by cases e; rfl)
theorem Keep.set (A : World) (b o : Nat) (v : Value) : Keep (fun k => k ≠ b) A (A.setCell ⟨b, o, none⟩ v) :=
  ⟨rfl, rfl, rfl, by simp [World.setCell], fun k _ hs => Below.heap_setCell _ _ _ _ hs⟩
theorem Keep.below {S : Nat → Prop} {A B w : World} {N : Nat} (h : Keep S A B) (hb : Below N w A) (hN : N ≤ A.heap.size) (hs : ∀ k, k < N → S k) : Below N w B :=
  hb.trans ⟨h.os, h.tape, h.output, h.size, fun k hk => h.block k (by omega) (hs k hk)⟩
theorem Keep.cell {S : Nat → Prop} {A B : World} (h : Keep S A B) {b o : Nat} {v : Value} (hc : A.cell? ⟨b, o, none⟩ = some v) (hs : S b) : B.cell? ⟨b, o, none⟩ = some v :=
  (World.cell?_of_block (a := ⟨b, o, none⟩) (h.block b (World.block_lt_of_cell? A ⟨b, o, none⟩ hc) hs)).trans hc

def IntRow (w : World) (E : TypeId) (b : Nat) (l : List Int) : Prop := w.heap[b]? = some (.cells (l.map (Value.int .i64)).toArray E (0, 0))
theorem IntRow.lt {w : World} {E : TypeId} {b : Nat} {l : List Int} (h : IntRow w E b l) : b < w.heap.size := (Array.getElem?_eq_some_iff.1 h).1
theorem IntRow.cell {w : World} {E : TypeId} {b : Nat} {l : List Int} (h : IntRow w E b l) {j : Nat} (hj : j < l.length) : w.cell? ⟨b, j, none⟩ = some (.int .i64 (l[j]?.getD 0)) := by
  simp [World.cell?, show w.heap[b]? = _ from h, hj]
theorem IntRow.frozen {w : World} {E : TypeId} {b : Nat} {l : List Int} (h : IntRow w E b l) (j : Nat) : w.frozen? ⟨b, j, none⟩ = false := by
  simp [World.frozen?, show w.heap[b]? = _ from h]
theorem IntRow.keep {w w' : World} {E : TypeId} {b : Nat} {l : List Int} (h : IntRow w E b l) (hk : w'.heap[b]? = w.heap[b]?) : IntRow w' E b l := hk.trans h
theorem IntRow.set {w : World} {E : TypeId} {b : Nat} {l : List Int} (h : IntRow w E b l) (j : Nat) (n : Int) : IntRow (w.setCell ⟨b, j, none⟩ (.int .i64 n)) E b (l.set j n) := by
  obtain ⟨hlt, hk⟩ := Array.getElem?_eq_some_iff.1 h
  unfold IntRow
  show (w.heap.modify b _)[b]? = _
  rw [Array.getElem?_eq_getElem (by rw [Array.size_modify]; exact hlt), Array.getElem_modify_self, hk]
  simp [List.map_set]
theorem IntRow.ints {w : World} {E : TypeId} {b : Nat} {l : List Int} (h : IntRow w E b l) : IntsAt w (some ⟨b, 0, none⟩) l :=
  fun j hj => ⟨b, 0, rfl, h.lt, by rw [Nat.zero_add]; exact h.cell hj⟩
theorem IntRow.made (w : World) (E : TypeId) (n : Nat) : IntRow (w.alloc (.cells (madeCells #[.int .i64 0] n) E)) E w.heap.size (List.replicate n 0) := by
  have e : madeCells #[Value.int .i64 0] n = ((List.replicate n (0 : Int)).map (Value.int .i64)).toArray := by
    apply Array.toList_inj.1
    rw [toList_madeCells_one]; simp
  unfold IntRow
  rw [← e]
  exact World.alloc_heap_new _ _

def IterInts (P : Program) (E : TypeId) (g : Nat) (lb : Array Value) (xs : List (List Int)) (fp : Nat → Prop) (w0 : World) : Prop :=
  ∀ (l : Nat) (J : Nat → List (List Int) → World → Prop) (Jx : List (List Int) → World → Prop) (W : World), Below w0.heap.size w0 W →
    (∀ it s A B, W.heap.size ≤ it → J it s A → Keep (fun k => k ≠ it) A B → J it s B) →
    (∀ it pre x cap sp W1, pre ++ [x] <+: xs → W.heap.size ≤ it → it < W1.heap.size → J it pre W1 → W1.heap[it]? = some (.cells (x.map (Value.int .i64) ++ sp).toArray E (0, 0)) →
      YieldAt Fence.wide 0 P l #[.slice (some ⟨it, 0, none⟩) x.length cap] W1 fun e W' =>
        (e = .returned (.bool true) ∧ J it (pre ++ [x]) W' ∧ W1.heap.size ≤ W'.heap.size ∧ (∀ k, fp k ∨ k = it → W'.heap[k]? = W1.heap[k]?)) ∨ (e = .returned (.bool false) ∧ Jx (pre ++ [x]) W')) →
    (∀ it, W.heap.size ≤ it → J it [] W) →
    CallsIn Fence.wide 0 P g (#[.func (.yield l) #[] #[]] ++ lb) W fun e W' => (∃ v, e = .returned v) ∧ ((∃ it, W.heap.size ≤ it ∧ J it xs W') ∨ (∃ pre, pre <+: xs ∧ Jx pre W'))

def roundEnd (S : Nat → Prop) (I : List (List Int) → World → Prop) (Ix : Code → List (List Int) → World → Prop) (xs : List (List Int)) (W : World) : Exit → Act → World → Prop
  | .normal, _, W' => W.heap.size ≤ W'.heap.size ∧ (∀ k, S k → W'.heap[k]? = W.heap[k]?) ∧ I xs W'
  | .ret, _, W' => W.heap.size ≤ W'.heap.size ∧ (∀ k, S k → W'.heap[k]? = W.heap[k]?) ∧ Ix .ret xs W'
  | .exit id, _, W' => W.heap.size ≤ W'.heap.size ∧ (∀ k, S k → W'.heap[k]? = W.heap[k]?) ∧ Ix (.exit id) xs W'
  | .goto t, _, W' => W.heap.size ≤ W'.heap.size ∧ (∀ k, S k → W'.heap[k]? = W.heap[k]?) ∧ Ix (.goto t) xs W'
  | .panic _, _, _ => False
  | .outgrown, _, _ => False

theorem range_ints {P : Program} {E : TypeId} {g : Operand} {p : Tmp} {assign body : Code} {Q : Exit → Act → World → Prop} {a : Act} {w : World}
    {gf : Nat} {lb : Array Value} (hg : a.eval g = .func (.func gf) #[] lb) (eg : ∀ args w, (callFunc gf args).run P w = .ok (.enter gf args) w)
    {xs : List (List Int)} {fp : Nat → Prop} {w0 : World} (hseq : IterInts P E gf lb xs fp w0) (hb0 : Below w0.heap.size w0 w) (hfp : ∀ k, fp k → k < w.heap.size)
    (I : Nat → List (List Int) → World → Prop) (Ix : Code → List (List Int) → World → Prop)
    (hI : ∀ it s A B, w.heap.size + 2 ≤ it → I it s A → Keep (fun k => k ≠ w.heap.size ∧ k ≠ w.heap.size + 1 ∧ k ≠ it) A B → I it s B)
    (hIx : ∀ c s A B, Ix c s A → Keep (fun k => k ≠ w.heap.size ∧ k ≠ w.heap.size + 1) A B → Ix c s B)
    (h0 : ∀ it, w.heap.size + 2 ≤ it → I it [] w) (a₁ : Value → Act)
    (hassign : ∀ (l : Nat) (v : Value) (W : World) (K : Act → World → Prop), K (a₁ v) W →
      assign.wpIn (Fence.wide.inRound l) 0 P (Exit.then K (fun _ _ _ => False)) { tmps := a.tmps.setIfInBounds p v, defers := [] } W)
    (hbody : ∀ (l it : Nat) (pre : List (List Int)) (x : List Int) (cap : Nat) (sp : List Value) (W : World), w.heap.size + 2 ≤ it → pre ++ [x] <+: xs → I it pre W → it < W.heap.size →
      W.heap[it]? = some (.cells (x.map (Value.int .i64) ++ sp).toArray E (0, 0)) →
      (∃ o, W.heap[w.heap.size]? = some o ∧ o.isCells = false) → (∃ o, W.heap[w.heap.size + 1]? = some o ∧ o.isCells = false) →
      body.wpIn (Fence.wide.inRound l) 0 P (roundEnd (fun k => fp k ∨ k = w.heap.size ∨ k = w.heap.size + 1 ∨ k = it) (I it) Ix (pre ++ [x]) W) (a₁ (.slice (some ⟨it, 0, none⟩) x.length cap)) W)
    (hdone : ∀ (it : Nat) (W : World), w.heap.size + 2 ≤ it → I it xs W → W.heap[w.heap.size]? = some (.deferred (some [])) → Q .normal { a with defers := { target := .collected w.heap.size, args := #[] } :: a.defers } W)
    (hstop : ∀ (c : Code) (pre : List (List Int)) (W : World), pre <+: xs → Ix c pre W → W.heap[w.heap.size]? = some (.deferred (some [])) → c.wpIn Fence.wide 0 P Q { a with defers := { target := .collected w.heap.size, args := #[] } :: a.defers } W) :
    (Code.rangeFunc g #[p] assign body).wpIn Fence.wide 0 P Q a w := by
  refine wpIn_rangeFunc ?_
  intro fn hfn
  obtain ⟨rec, hrec⟩ : ∃ rec : LoopState → Option Code → Loop, rec = fun st pe => { state := st, pending := pe, fn, tmps := a.tmps, params := #[p], assign, body, defers := w.heap.size } := ⟨_, rfl⟩
  obtain ⟨W1, hW1⟩ : ∃ W1, (w.alloc (.deferred (some []))).alloc (.loop (rec .ready none)) = W1 := ⟨_, rfl⟩
  have hsz1 : W1.heap.size = w.heap.size + 2 := by rw [← hW1]; simp
  have hL1 : W1.heap[w.heap.size + 1]? = some (.loop (rec .ready none)) := by
    rw [← hW1]; have := World.alloc_heap_new (w.alloc (.deferred (some []))) (.loop (rec .ready none)); rwa [World.size_alloc] at this
  have hK1 : W1.heap[w.heap.size]? = some (.deferred (some [])) := by
    rw [← hW1]; exact (Below.heap_alloc _ _ _ (by simp)).trans (World.alloc_heap_new w _)
  have hbw : Below w.heap.size w W1 := by rw [← hW1]; exact ((Below.refl _ w).alloc (Nat.le_refl _) _).alloc (by simp) _
  refine ⟨w.heap.size + 1, [{ target := .collected w.heap.size, args := #[] }], W1, { target := .fn (.func gf) lb, args := #[.func (.yield (w.heap.size + 1)) #[] #[]] }, W1, gf,
    #[.func (.yield (w.heap.size + 1)) #[] #[]] ++ lb, W1, ?_, ?_, ?_, ?_, fun h => by simp [Fence.wide] at h, ?_⟩
  · rw [← hW1, hrec]; exact run_enterLoop_outer _ _ _ _ _
  · simp only [resolve, hg]
    simp [go_sem]
  · intro f' hf'; exact trivial
  · simp [invoke, go_sem, eg]
  · refine (hseq (w.heap.size + 1)
      (fun it pre W => I it pre W ∧ W.heap[w.heap.size + 1]? = some (.loop (rec .ready none)) ∧ W.heap[w.heap.size]? = some (.deferred (some [])))
      (fun pre W => ∃ c, Ix c pre W ∧ W.heap[w.heap.size + 1]? = some (.loop (rec .done (some c))) ∧ W.heap[w.heap.size]? = some (.deferred (some [])))
      W1 (chain hb0 hbw) ?_ ?_ ?_).mono ?_
    · rintro it s A B hit ⟨hi, hl, hk⟩ hAB
      rw [hsz1] at hit
      exact ⟨hI it s A B hit hi (hAB.mono fun k hk => hk.2.2), (hAB.block _ (Array.getElem?_eq_some_iff.1 hl).1 (by omega)).trans hl, (hAB.block _ (Array.getElem?_eq_some_iff.1 hk).1 (by omega)).trans hk⟩
    · rintro it pre x cap sp W hpre hit hitW ⟨hi, hl, hk⟩ hx
      rw [hsz1] at hit
      have hlt : w.heap.size + 1 < W.heap.size := (Array.getElem?_eq_some_iff.1 hl).1
      have hy := run_yield (P := P) (args := #[.slice (some ⟨it, 0, none⟩) x.length cap]) hl (by rw [hrec]; simp)
      rw [hrec] at hy
      have hy' : (Instr.yield (w.heap.size + 1) #[.slice (some ⟨it, 0, none⟩) x.length cap]).run P W = .ok (.round (w.heap.size + 1) fn (a.tmps.setIfInBounds p (.slice (some ⟨it, 0, none⟩) x.length cap)) assign body) W := by
        simpa using hy
      refine ⟨fn, _, assign, body, hy', roundIn_of_wpIn hfn ?_⟩
      refine hassign _ (.slice (some ⟨it, 0, none⟩) x.length cap) W _ ?_
      refine ⟨_, run_beginRound hl (by rw [hrec]), ?_⟩
      have hl2 : (W.putObj (w.heap.size + 1) (.loop { rec .ready none with state := .busy })).heap[w.heap.size + 1]? = some (.loop { rec .ready none with state := .busy }) := World.putObj_heap_same hlt
      have hx2 : (W.putObj (w.heap.size + 1) (.loop { rec .ready none with state := .busy })).heap[it]? = some (.cells (x.map (Value.int .i64) ++ sp).toArray E (0, 0)) := (World.putObj_heap_other (by omega)).trans hx
      have hkp := Keep.put W (w.heap.size + 1) (.loop { rec .ready none with state := .busy })
      refine wpIn_mono (hbody _ it pre x cap sp _ hit hpre (hI it _ _ _ hit hi (hkp.mono fun k hk => hk.2.1)) (Nat.lt_of_lt_of_le hitW hkp.size) hx2 ⟨_, (World.putObj_heap_other (by omega)).trans hk, rfl⟩ ⟨_, hl2, rfl⟩) ?_
      have fin : ∀ (jump : Option Code) (W3 : World), (∀ k, (fp k ∨ k = w.heap.size ∨ k = w.heap.size + 1 ∨ k = it) → W3.heap[k]? = (W.putObj (w.heap.size + 1) (.loop { rec .ready none with state := .busy })).heap[k]?) →
          (Instr.endRound (w.heap.size + 1) jump).run P W3 = .ok (.bool jump.isNone) (W3.putObj (w.heap.size + 1) (.loop (rec (if jump.isNone then .ready else .done) jump))) ∧
          W3.heap[w.heap.size + 1]? = some (.loop { rec .ready none with state := .busy }) ∧
          (W3.putObj (w.heap.size + 1) (.loop (rec (if jump.isNone then .ready else .done) jump))).heap[w.heap.size + 1]? = some (.loop (rec (if jump.isNone then .ready else .done) jump)) ∧
          (W3.putObj (w.heap.size + 1) (.loop (rec (if jump.isNone then .ready else .done) jump))).heap[w.heap.size]? = some (.deferred (some [])) := fun jump W3 hk3 => by
        have hl3 := (hk3 (w.heap.size + 1) (by simp)).trans hl2
        have := run_endRound (P := P) jump hl3
        rw [hrec] at this ⊢
        refine ⟨this, by rw [hrec] at hl3; exact hl3, World.putObj_heap_same (Array.getElem?_eq_some_iff.1 hl3).1, (World.putObj_heap_other (by omega)).trans ((hk3 w.heap.size (by simp)).trans ((World.putObj_heap_other (by omega)).trans hk))⟩
      rintro e a3 W3 hp
      have keepP : ∀ (o : Obj), Keep (fun k => k ≠ w.heap.size ∧ k ≠ w.heap.size + 1) W3 (W3.putObj (w.heap.size + 1) o) := fun o => (Keep.put W3 (w.heap.size + 1) o).mono fun k hk => hk.2
      cases e with
      | normal =>
        obtain ⟨hs3, hk3, hi3⟩ := hp
        obtain ⟨hr, hl3, hl4, hk4⟩ := fin none W3 hk3
        refine ⟨_, _, hr, .inl ⟨rfl, ⟨hI it _ _ _ hit hi3 ((Keep.put W3 _ _).mono fun k hk => hk.2.1), hl4, hk4⟩, ?_, ?_⟩⟩
        · exact Nat.le_trans (Nat.le_trans hkp.size hs3) (keepP _).size
        · intro k hk
          have hne : k ≠ w.heap.size + 1 := by
            rcases hk with hk | hk
            · have := hfp k hk; omega
            · omega
          exact (World.putObj_heap_other hne).trans ((hk3 k (by rcases hk with hk | hk <;> simp [hk])).trans (World.putObj_heap_other hne))
      | ret =>
        obtain ⟨hs3, hk3, hi3⟩ := hp
        obtain ⟨hr, hl3, hl4, hk4⟩ := fin (some .ret) W3 hk3
        exact ⟨_, _, hr, .inr ⟨rfl, .ret, hIx _ _ _ _ hi3 (keepP _), hl4, hk4⟩⟩
      | exit id =>
        obtain ⟨hs3, hk3, hi3⟩ := hp
        obtain ⟨hr, hl3, hl4, hk4⟩ := fin (some (.exit id)) W3 hk3
        exact ⟨_, _, hr, .inr ⟨rfl, .exit id, hIx _ _ _ _ hi3 (keepP _), hl4, hk4⟩⟩
      | goto t =>
        obtain ⟨hs3, hk3, hi3⟩ := hp
        obtain ⟨hr, hl3, hl4, hk4⟩ := fin (some (.goto t)) W3 hk3
        exact ⟨_, _, hr, .inr ⟨rfl, .goto t, hIx _ _ _ _ hi3 (keepP _), hl4, hk4⟩⟩
      | panic ch => exact hp.elim
      | outgrown => exact hp.elim
    · intro it hit
      rw [hsz1] at hit
      exact ⟨hI it _ _ _ hit (h0 it hit) (Keep.of_below hbw), hL1, hK1⟩
    · rintro e W2 ⟨⟨v, rfl⟩, (⟨it, hit, hi, hl, hk⟩ | ⟨pre, hSp, c, hi, hl, hk⟩)⟩
      · rw [hsz1] at hit
        refine ⟨none, _, by have := run_endLoop (P := P) hl (by rw [hrec]; simp); rw [hrec] at this; exact this, hdone it _ hit (hI it _ _ _ hit hi ((Keep.put W2 _ _).mono fun k hk => hk.2.1)) ((World.putObj_heap_other (by omega)).trans hk)⟩
      · refine ⟨some c, _, by have := run_endLoop (P := P) hl (by rw [hrec]; simp); rw [hrec] at this; exact this, hstop c pre _ hSp (hIx _ _ _ _ hi ((Keep.put W2 _ _).mono fun k hk => hk.2)) ((World.putObj_heap_other (by omega)).trans hk)⟩
end Go.Proofs.Ytfipebkhomppmaa

namespace Go.Proofs.Ytfipebkhomppmaa
open Go.RowKit
set_option linter.unusedVariables false

def RowsAt (w : World) (a : Option Addr) (ls : List (List Int)) : Prop :=
  ∀ j (hj : j < ls.length), ∃ b off ra n cap, a = some ⟨b, off, none⟩ ∧ b < w.heap.size ∧ w.cell? ⟨b, off + j, none⟩ = some (.slice ra n cap) ∧ ls[j].length = n ∧ n ≤ maxLen ∧ IntsAt w ra ls[j]
theorem RowsAt.below {w w' : World} {a : Option Addr} {l : List (List Int)} (h : RowsAt w a l) (hb : Below w.heap.size w w') : RowsAt w' a l := by
  intro j hj
  obtain ⟨b, off, ra, n, cap, e, hlt, h0, hn, hm, hi⟩ := h j hj
  exact ⟨b, off, ra, n, cap, e, Nat.lt_of_lt_of_le hlt hb.size, (hb.cell (p := ⟨b, _, none⟩) hlt).trans h0, hn, hm, hi.below hb⟩

def ElemI (E : TypeId) (W : World) (base : Nat) (S : Nat → Prop) (v : Value) (l : List Int) : Prop :=
  ∃ a n cap, v = .slice a n cap ∧ l.length = n ∧ n ≤ maxLen ∧ ∀ j, j < l.length → ∃ b off, a = some ⟨b, off, none⟩ ∧ S b ∧ b < W.heap.size ∧
    (b < base ∨ ∃ c f, W.heap[b]? = some (.cells c E f)) ∧ W.cell? ⟨b, off + j, none⟩ = some (.int .i64 (l[j]?.getD 0))

theorem ElemI.keep {E : TypeId} {W W' : World} {base : Nat} {S T : Nat → Prop} {v : Value} {l : List Int} (h : ElemI E W base S v l) (hk : Keep T W W')
    (hT : ∀ b, S b → b < W.heap.size → (b < base ∨ ∃ c f, W.heap[b]? = some (.cells c E f)) → T b) : ElemI E W' base S v l := by
  obtain ⟨a, n, cap, e, hn, hm, hj⟩ := h
  refine ⟨a, n, cap, e, hn, hm, fun j hlt => ?_⟩
  obtain ⟨b, off, e, hS, hb, hty, hc⟩ := hj j hlt
  have ht := hT b hS hb hty
  refine ⟨b, off, e, hS, Nat.lt_of_lt_of_le hb hk.size, ?_, hk.cell hc ht⟩
  rcases hty with h | ⟨c, f, h⟩
  · exact .inl h
  · exact .inr ⟨c, f, (hk.block b hb ht).trans h⟩

theorem ElemI.ints {E : TypeId} {W : World} {base : Nat} {S : Nat → Prop} {l : List Int} {a : Option Addr} {n cap : Nat} (h : ElemI E W base S (.slice a n cap) l) : l.length = n ∧ n ≤ maxLen ∧ IntsAt W a l := by
  obtain ⟨a', n', cap', e, hn, hm, hj⟩ := h
  cases e
  refine ⟨hn, hm, fun j hlt => ?_⟩
  obtain ⟨b, off, e, _, hb, _, hc⟩ := hj j hlt
  exact ⟨b, off, e, hb, hc⟩

theorem ElemI.own {E : TypeId} {W : World} {b0 base : Nat} {S : Nat → Prop} {v : Value} {l : List Int} (h : W.ownsRow b0 E 1 v l.length (l.map (Value.int .i64))) (hm : l.length ≤ maxLen) (hS : ∀ b, b0 ≤ b → S b) : ElemI E W base S v l := by
  obtain ⟨h1, h2⟩ := h
  rcases h2 with ⟨rfl, h0⟩ | ⟨g, cap, cur, rfl, hg, hh, hnc, hcm, hsz, htk⟩
  · exact ⟨none, 0, 0, rfl, h0, by unfold maxLen; omega, fun j hj => by omega⟩
  · refine ⟨_, _, cap, rfl, rfl, hm, fun j hj => ⟨g, 0, rfl, hS g hg, (Array.getElem?_eq_some_iff.1 hh).1, .inr ⟨cur, _, hh⟩, ?_⟩⟩
    rw [Nat.zero_add]
    have := World.ownsRow.cellAt (w := W) (base := b0) (e := E) (size := 1) (g := g) (n := l.length) (cap := cap) (xs := l.map (Value.int .i64)) ⟨h1, .inr ⟨g, cap, cur, rfl, hg, hh, hnc, hcm, hsz, htk⟩⟩ j (by omega)
    rw [this, List.getElem?_map, List.getElem?_eq_getElem hj]; rfl

theorem ownsRow_slice {W : World} {base : Nat} {e : TypeId} {size : Nat} {v : Value} {n : Nat} {xs : List Value} (h : W.ownsRow base e size v n xs) : ∃ a cap, v = .slice a n cap := by
  rcases h.2 with ⟨rfl, rfl⟩ | ⟨g, cap, cur, rfl, _⟩
  · exact ⟨_, _, rfl⟩
  · exact ⟨_, _, rfl⟩

def RowsO (E T : TypeId) (W : World) (base : Nat) (S : Nat → Prop) (v : Value) (ls : List (List Int)) : Prop :=
  ∃ vs, W.ownsRow base T 1 v ls.length vs ∧ (∀ k, v.ownBlock = some k → S k) ∧ ∀ j (hj : j < ls.length), ∃ u, vs[j]? = some u ∧ ElemI E W base S u ls[j]

theorem RowsO.nil (E T : TypeId) (W : World) (base : Nat) (S : Nat → Prop) : RowsO E T W base S (.slice none 0 0) [] :=
  ⟨[], World.ownsRow_nil _ _ _ _, fun k hk => by simp [Value.ownBlock] at hk, fun j hj => by simp at hj⟩

theorem RowsO.keep {E T : TypeId} {W W' : World} {base : Nat} {S : Nat → Prop} {v : Value} {ls : List (List Int)} (h : RowsO E T W base S v ls) (hk : Keep S W W') : RowsO E T W' base S v ls := by
  obtain ⟨vs, ho, hg, he⟩ := h
  refine ⟨vs, ⟨ho.1, ?_⟩, hg, fun j hj => ?_⟩
  · rcases ho.2 with hn | ⟨g, cap, cur, rfl, hb, hgg, rest⟩
    · exact .inl hn
    · exact .inr ⟨g, cap, cur, rfl, hb, (hk.block g (Array.getElem?_eq_some_iff.1 hgg).1 (hg g rfl)).trans hgg, rest⟩
  · obtain ⟨u, hu, hel⟩ := he j hj
    exact ⟨u, hu, hel.keep hk fun b hS _ _ => hS⟩

theorem RowsO.free {E T : TypeId} {W : World} {base : Nat} {S : Nat → Prop} {v : Value} {ls : List (List Int)} (h : RowsO E T W base S v ls) : RowsO E T W base (fun _ => True) v ls := by
  obtain ⟨vs, ho, hg, he⟩ := h
  refine ⟨vs, ho, fun _ _ => trivial, fun j hj => ?_⟩
  obtain ⟨u, hu, a, n, cap, e, hn, hm, hel⟩ := he j hj
  refine ⟨u, hu, a, n, cap, e, hn, hm, fun i hi => ?_⟩
  obtain ⟨b, off, e, _, rest⟩ := hel i hi
  exact ⟨b, off, e, trivial, rest⟩

theorem RowsO.snoc {E T : TypeId} (hET : E ≠ T) {W w1 w2 : World} {base : Nat} {S : Nat → Prop} {v v' u : Value} {ls : List (List Int)} {l : List Int} {vs : List Value}
    (ho : W.ownsRow base T 1 v ls.length vs) (he : ∀ j (hj : j < ls.length), ∃ u, vs[j]? = some u ∧ ElemI E W base S u ls[j]) (hu : ElemI E W base S u l)
    (hW1 : Below W.heap.size W w1) (hg : w1.grownBy w2 v.ownBlock) (ho' : w2.ownsRow base T 1 v' (ls.length + 1) (vs ++ [u])) (hS' : ∀ k, v'.ownBlock = some k → S k) : RowsO E T w2 base S v' (ls ++ [l]) := by
  have hlen : vs.length = ls.length := by have := ho.1; omega
  have hgb : ∀ b, (b < base ∨ ∃ c f, W.heap[b]? = some (.cells c E f)) → b < W.heap.size → w2.heap[b]? = W.heap[b]? := by
    intro b hty hb
    refine (hg.block b (Nat.lt_of_lt_of_le hb hW1.size) ?_).trans (hW1.block b hb)
    rcases ho.2 with ⟨rfl, _⟩ | ⟨g, cap, cur, rfl, hbg, hgg, _⟩
    · simp [Value.ownBlock]
    · intro e
      obtain rfl : b = g := by simpa [Value.ownBlock] using e
      rcases hty with h | ⟨c, f, h⟩
      · omega
      · rw [h] at hgg; cases hgg; exact hET rfl
  have hel : ∀ u l, ElemI E W base S u l → ElemI E w2 base S u l := by
    intro u l h
    refine h.keep (T := fun b => b < W.heap.size ∧ (b < base ∨ ∃ c f, W.heap[b]? = some (.cells c E f))) ⟨hg.os.trans hW1.os, hg.tape.trans hW1.tape, hg.output.trans hW1.output, Nat.le_trans hW1.size hg.size, fun k hk hT => hgb k hT.2 hk⟩ fun b _ hb hty => ⟨hb, hty⟩
  refine ⟨vs ++ [u], by simpa using ho', hS', fun j hj => ?_⟩
  by_cases e : j < ls.length
  · obtain ⟨u', hu', hel'⟩ := he j e
    refine ⟨u', by rw [List.getElem?_append_left (by omega)]; exact hu', ?_⟩
    rw [List.getElem_append_left e]
    exact hel _ _ hel'
  · have : j = ls.length := by simp at hj; omega
    subst this
    refine ⟨u, by rw [List.getElem?_append_right (by omega), hlen]; simp, ?_⟩
    simp only [List.getElem_append_right (Nat.le_refl _), Nat.sub_self, List.getElem_cons_zero]
    exact hel _ _ hu

theorem RowsO.reads {E T : TypeId} {W : World} {base : Nat} {S : Nat → Prop} {v : Value} {ls : List (List Int)} (h : RowsO E T W base S v ls) : ∃ a cap, v = .slice a ls.length cap ∧ ls.length ≤ maxLen ∧ RowsAt W a ls ∧ (a = none → ls = []) := by
  obtain ⟨vs, ho, hg, he⟩ := h
  rcases ho.2 with ⟨rfl, h0⟩ | ⟨g, cap, cur, rfl, hbg, hgg, hnc, hcm, hsz, htk⟩
  · have : ls = [] := List.eq_nil_of_length_eq_zero h0
    subst this
    exact ⟨none, 0, rfl, by simp, fun j hj => by simp at hj, fun _ => rfl⟩
  · refine ⟨_, cap, rfl, by omega, fun j hj => ?_, fun h => by cases h⟩
    obtain ⟨u, hu, hel⟩ := he j hj
    have hc := World.ownsRow.cellAt (w := W) (base := base) (e := T) (size := 1) (g := g) (n := ls.length) (cap := cap) (xs := vs) ⟨ho.1, .inr ⟨g, cap, cur, rfl, hbg, hgg, hnc, hcm, hsz, htk⟩⟩ j (by omega)
    obtain ⟨a', n', cap', rfl, h1, h2, h3⟩ := id hel
    obtain ⟨h1, h2, h3⟩ := hel.ints
    exact ⟨g, 0, a', n', cap', rfl, (Array.getElem?_eq_some_iff.1 hgg).1, by rw [Nat.zero_add, hc, hu], h1, h2, h3⟩
end Go.Proofs.Ytfipebkhomppmaa

namespace Go.Proofs.Ytfipebkhomppmaa
open Go.RowKit
set_option linter.unusedVariables false

def inB (n lo hi : Int) : Bool := decide (lo ≤ n) && decide (n ≤ hi)

theorem mwithin_c (n lo hi : Int) (w : World) : Calls Try.prog 123 #[.int .i64 n, .int .i64 lo, .int .i64 hi] w fun e w' => e = .returned (.bool (inB n lo hi)) ∧ w = w' := by
  by_cases h1 : lo ≤ n <;> by_cases h2 : n ≤ hi
  all_goals
    go_enter Try.func123, Try.ntmps123
    go_wp2
    go_ret
    exact ⟨ret_bool (by simp [inB, h1, h2]), rfl⟩

theorem indexI (w : World) (a : Option Addr) (n cap : Nat) (l : List Int) (hn : l.length = n) (hm : n ≤ maxLen) (H : IntsAt w a l) (g : Nat) (lb : Array Value) (p : Int → Bool)
    (eg : ∀ args w, (callFunc g args).run Try.prog w = .ok (.enter g args) w) (hp : PredI Try.prog g lb w p) :
    Calls Try.prog 118 #[.slice a n cap, .func (.func g) #[] lb] w fun e w' => e = .returned (.int .i64 (idxP p l 0)) ∧ Below w.heap.size w w' := by
  have HN := hid hn
  have HH := hid H
  have HP := hid hp
  clear hn H hp
  unfold maxLen at hm
  go_enter Try.func118, Try.ntmps118
  go_wp2
  go_loopw [8] (fun i wr => ∃ k : Nat, k ≤ n ∧ i = .int .i64 k ∧ Below w.heap.size w wr ∧ ∀ i y, i < k → l[i]? = some y → p y = false) (fun i _ => n - (intOf i).toNat)
  case atStart => exact ⟨0, Nat.zero_le _, rfl, Below.refl _ _, fun i y h => by omega⟩
  case round =>
    obtain ⟨k, hk, rfl, hb, hno⟩ := hrel
    have HNO := hid hno
    clear hno
    by_cases hlt : k < n
    · obtain ⟨b, off, rfl, hbs, hc⟩ := (HH.out.below hb) k (by rw [HN.out]; exact hlt)
      have hkk := getD_lt (l := l) (k := k) (by rw [HN.out]; exact hlt)
      have HK := hid hkk
      clear hkk
      cases hpx : p (l[k]?.getD 0)
      · go_wp2_with (refine (HP.out _ _ hb).mono ?_; rintro e w1 ⟨rfl, hb1⟩)
        refine ⟨⟨k + 1, by omega, by go_num, chain hb hb1, ?_⟩, by simp [intOf]; omega⟩
        intro i y hi hy
        by_cases e : i = k
        · subst e; rw [HK.out] at hy; cases hy; exact hpx
        · exact HNO.out i y (by omega) hy
      · go_wp2_with (refine (HP.out _ _ hb).mono ?_; rintro e w1 ⟨rfl, hb1⟩)
        go_ret
        refine ⟨ret_int ?_, chain hb hb1⟩
        rw [idxP_at p l 0 k _ HK.out hpx HNO.out]; simp
    · go_wp2
      go_ret
      refine ⟨ret_int ?_, hb⟩
      rw [idxP_neg]
      intro x hx
      obtain ⟨i, hi, e⟩ := List.getElem_of_mem hx
      exact HNO.out i x (by have := HN.out; omega) (by rw [List.getElem?_eq_getElem hi, e])

theorem containsI (w : World) (a : Option Addr) (n cap : Nat) (l : List Int) (hn : l.length = n) (hm : n ≤ maxLen) (H : IntsAt w a l) (g : Nat) (lb : Array Value) (p : Int → Bool)
    (eg : ∀ args w, (callFunc g args).run Try.prog w = .ok (.enter g args) w) (hp : PredI Try.prog g lb w p) :
    Calls Try.prog 71 #[.slice a n cap, .func (.func g) #[] lb] w fun e w' => e = .returned (.bool (l.any p)) ∧ Below w.heap.size w w' := by
  have HC := hid (indexI w a n cap l hn hm H g lb p eg hp)
  have HG := idxP_ge p l 0
  have HG' := hid HG
  clear hn H hp HG
  go_enter Try.func71, Try.ntmps71
  go_wp2_with (refine HC.out.mono ?_; rintro e w1 ⟨rfl, hb1⟩)
  go_ret
  refine ⟨ret_bool ?_, hb1⟩
  rw [Bool.eq_iff_iff, decide_eq_true_iff, HG'.out]

def SlV (w : World) (v : Value) (l : List Int) : Prop := ∃ ra n cap, v = .slice ra n cap ∧ l.length = n ∧ n ≤ maxLen ∧ IntsAt w ra l
theorem SlV.below {w w' : World} {v : Value} {l : List Int} (h : SlV w v l) (hb : Below w.heap.size w w') : SlV w' v l := by
  obtain ⟨ra, n, cap, e, hn, hm, hi⟩ := h
  exact ⟨ra, n, cap, e, hn, hm, hi.below hb⟩

def PredR (P : Program) (g : Nat) (lb : Array Value) (w : World) (p : List Int → Bool) : Prop :=
  ∀ (l : List Int) (v : Value) (W : World), Below w.heap.size w W → SlV W v l → Calls P g (#[v] ++ lb) W fun e W' => e = .returned (.bool (p l)) ∧ Below W.heap.size W W'

theorem indexR (w : World) (a : Option Addr) (n cap : Nat) (l : List (List Int)) (hn : l.length = n) (hm : n ≤ maxLen) (H : RowsAt w a l) (g : Nat) (lb : Array Value) (p : List Int → Bool)
    (eg : ∀ args w, (callFunc g args).run Try.prog w = .ok (.enter g args) w) (hp : PredR Try.prog g lb w p) :
    Calls Try.prog 129 #[.slice a n cap, .func (.func g) #[] lb] w fun e w' => e = .returned (.int .i64 (idxP p l 0)) ∧ Below w.heap.size w w' := by
  have HN := hid hn
  have HH := hid H
  have HP := hid hp
  clear hn H hp
  unfold maxLen at hm
  go_enter Try.func129, Try.ntmps129
  go_wp2
  go_loopw [8] (fun i wr => ∃ k : Nat, k ≤ n ∧ i = .int .i64 k ∧ Below w.heap.size w wr ∧ ∀ i y, i < k → l[i]? = some y → p y = false) (fun i _ => n - (intOf i).toNat)
  case atStart => exact ⟨0, Nat.zero_le _, rfl, Below.refl _ _, fun i y h => by omega⟩
  case round =>
    obtain ⟨k, hk, rfl, hb, hno⟩ := hrel
    have HNO := hid hno
    clear hno
    by_cases hlt : k < n
    · have hkl : k < l.length := by rw [HN.out]; exact hlt
      obtain ⟨b, off, ra, rn, rc, rfl, hbs, h0, hrn, hrm, hri⟩ := (HH.out.below hb) k hkl
      have HV := hid (show SlV wr (.slice ra rn rc) l[k] from ⟨ra, rn, rc, rfl, hrn, hrm, hri⟩)
      clear hrn hri
      have HK := hid (List.getElem?_eq_getElem hkl)
      cases hpx : p l[k]
      · go_wp2_with (refine (HP.out _ _ _ hb HV.out).mono ?_; rintro e w1 ⟨rfl, hb1⟩)
        refine ⟨⟨k + 1, by omega, by go_num, chain hb hb1, ?_⟩, by simp [intOf]; omega⟩
        intro i y hi hy
        by_cases e : i = k
        · subst e; rw [HK.out] at hy; cases hy; exact hpx
        · exact HNO.out i y (by omega) hy
      · go_wp2_with (refine (HP.out _ _ _ hb HV.out).mono ?_; rintro e w1 ⟨rfl, hb1⟩)
        go_ret
        refine ⟨ret_int ?_, chain hb hb1⟩
        rw [idxP_at p l 0 k _ HK.out hpx HNO.out]; simp
    · go_wp2
      go_ret
      refine ⟨ret_int ?_, hb⟩
      rw [idxP_neg]
      intro x hx
      obtain ⟨i, hi, e⟩ := List.getElem_of_mem hx
      exact HNO.out i x (by have := HN.out; omega) (by rw [List.getElem?_eq_getElem hi, e])

theorem containsR (w : World) (a : Option Addr) (n cap : Nat) (l : List (List Int)) (hn : l.length = n) (hm : n ≤ maxLen) (H : RowsAt w a l) (g : Nat) (lb : Array Value) (p : List Int → Bool)
    (eg : ∀ args w, (callFunc g args).run Try.prog w = .ok (.enter g args) w) (hp : PredR Try.prog g lb w p) :
    Calls Try.prog 149 #[.slice a n cap, .func (.func g) #[] lb] w fun e w' => e = .returned (.bool (l.any p)) ∧ Below w.heap.size w w' := by
  have HC := hid (indexR w a n cap l hn hm H g lb p eg hp)
  have HG := idxP_ge p l 0
  have HG' := hid HG
  clear hn H hp HG
  go_enter Try.func149, Try.ntmps149
  go_wp2_with (refine HC.out.mono ?_; rintro e w1 ⟨rfl, hb1⟩)
  go_ret
  refine ⟨ret_bool ?_, hb1⟩
  rw [Bool.eq_iff_iff, decide_eq_true_iff, HG'.out]

theorem allI1 (w : World) (b g : Nat) (lb : Array Value) (p : Int → Bool) (eg : ∀ args w, (callFunc g args).run Try.prog w = .ok (.enter g args) w) (hb : b < w.heap.size) (hc : w.cell? ⟨b, 0, none⟩ = some (.func (.func g) #[] lb)) (hp : PredI Try.prog g lb w p) :
    PredI Try.prog 168 #[.pointer (some ⟨b, 0, none⟩)] w (fun n => !p n) := by
  intro x W hbw
  have hc' : W.cell? ⟨b, 0, none⟩ = some (.func (.func g) #[] lb) := (hbw.cell (p := ⟨b, 0, none⟩) hb).trans hc
  have HP := hid (hp x W hbw)
  clear hp
  go_enter Try.func168, Try.ntmps168
  go_wp2_with (refine HP.out.mono ?_; rintro e w1 ⟨rfl, hb1⟩)
  go_ret
  exact ⟨rfl, hb1⟩

theorem allI_c (w : World) (a : Option Addr) (n cap : Nat) (l : List Int) (hn : l.length = n) (hm : n ≤ maxLen) (H : IntsAt w a l) (g : Nat) (lb : Array Value) (p : Int → Bool)
    (eg : ∀ args w, (callFunc g args).run Try.prog w = .ok (.enter g args) w) (hp : PredI Try.prog g lb w p) :
    Calls Try.prog 151 #[.slice a n cap, .func (.func g) #[] lb] w fun e w' => e = .returned (.bool (l.all p)) ∧ Below w.heap.size w w' := by
  have hb0 : Below w.heap.size w (w.alloc (.cells #[.func (.func g) #[] lb] 76)) := (Below.refl _ _).alloc (Nat.le_refl _) _
  have HC := hid (containsI (w.alloc (.cells #[.func (.func g) #[] lb] 76)) a n cap l hn hm (H.below hb0) 168 #[.pointer (some ⟨w.heap.size, 0, none⟩)] _ (enters_of Try.func168 (by kernel_rfl) rfl)
    (allI1 _ w.heap.size g lb p eg (by simp) (by rw [World.cell?_alloc_at _ _ _ _ rfl]; rfl) (fun x W h => hp x W (chain hb0 h))))
  clear hn H hp
  have hmf : ∀ (fn : Fn) (first cap : Array Value) (w : World), (Instr.makeFunc fn first cap).run Try.prog w = .ok (.func fn first cap) w := fun _ _ _ _ => rfl
  go_enter Try.func151, Try.ntmps151
  go_wp2_with (refine HC.out.mono ?_; rintro e w1 ⟨rfl, hb1⟩)
  go_ret
  exact ⟨ret_bool (by simp [List.all_eq_not_any_not]), chain hb0 hb1⟩

theorem allR1 (w : World) (b g : Nat) (lb : Array Value) (p : List Int → Bool) (eg : ∀ args w, (callFunc g args).run Try.prog w = .ok (.enter g args) w) (hb : b < w.heap.size) (hc : w.cell? ⟨b, 0, none⟩ = some (.func (.func g) #[] lb)) (hp : PredR Try.prog g lb w p) :
    PredR Try.prog 150 #[.pointer (some ⟨b, 0, none⟩)] w (fun n => !p n) := by
  intro x v W hbw hv
  have hc' : W.cell? ⟨b, 0, none⟩ = some (.func (.func g) #[] lb) := (hbw.cell (p := ⟨b, 0, none⟩) hb).trans hc
  have HP := hid (hp x v W hbw hv)
  obtain ⟨ra, rn, rc, rfl, _, _, _⟩ := hv
  clear hp
  go_enter Try.func150, Try.ntmps150
  go_wp2_with (refine HP.out.mono ?_; rintro e w1 ⟨rfl, hb1⟩)
  go_ret
  exact ⟨rfl, hb1⟩

theorem allR_c (w : World) (a : Option Addr) (n cap : Nat) (l : List (List Int)) (hn : l.length = n) (hm : n ≤ maxLen) (H : RowsAt w a l) (g : Nat) (lb : Array Value) (p : List Int → Bool)
    (eg : ∀ args w, (callFunc g args).run Try.prog w = .ok (.enter g args) w) (hp : PredR Try.prog g lb w p) :
    Calls Try.prog 124 #[.slice a n cap, .func (.func g) #[] lb] w fun e w' => e = .returned (.bool (l.all p)) ∧ Below w.heap.size w w' := by
  have hb0 : Below w.heap.size w (w.alloc (.cells #[.func (.func g) #[] lb] 39)) := (Below.refl _ _).alloc (Nat.le_refl _) _
  have HC := hid (containsR (w.alloc (.cells #[.func (.func g) #[] lb] 39)) a n cap l hn hm (H.below hb0) 150 #[.pointer (some ⟨w.heap.size, 0, none⟩)] _ (enters_of Try.func150 (by kernel_rfl) rfl)
    (allR1 _ w.heap.size g lb p eg (by simp) (by rw [World.cell?_alloc_at _ _ _ _ rfl]; rfl) (fun x v W h => hp x v W (chain hb0 h))))
  clear hn H hp
  have hmf : ∀ (fn : Fn) (first cap : Array Value) (w : World), (Instr.makeFunc fn first cap).run Try.prog w = .ok (.func fn first cap) w := fun _ _ _ _ => rfl
  go_enter Try.func124, Try.ntmps124
  go_wp2_with (refine HC.out.mono ?_; rintro e w1 ⟨rfl, hb1⟩)
  go_ret
  exact ⟨ret_bool (by simp [List.all_eq_not_any_not]), chain hb0 hb1⟩

abbrev Mask := List (List Int)
def okMRow (l : List Int) : Bool := inB l.length 1 10 && l.all (fun n => inB n (-1) 1)
def colsM (M : Mask) : Nat := (M[0]?.getD []).length
def okM (M : Mask) : Bool := inB M.length 1 6 && M.all (fun l => decide (l.length = colsM M) && okMRow l)

theorem row1 (w : World) : PredI Try.prog 152 #[] w (fun n => inB n (-1) 1) := by
  intro x W hb
  go_enter Try.func152, Try.ntmps152
  go_wp2_with (go_at_call 123; refine (mwithin_c _ _ _ _).mono ?_; rintro e w1 ⟨rfl, rfl⟩)
  go_ret
  exact ⟨rfl, Below.refl _ _⟩

theorem mrow_c (w : World) (a : Option Addr) (n cap : Nat) (l : List Int) (hn : l.length = n) (hm : n ≤ maxLen) (H : IntsAt w a l) :
    Calls Try.prog 126 #[.slice a n cap] w fun e w' => e = .returned (.bool (okMRow l)) ∧ Below w.heap.size w w' := by
  have HC := hid (allI_c w a n cap l hn hm H 152 #[] _ (enters_of Try.func152 (by kernel_rfl) rfl) (row1 w))
  have HN := hid hn
  clear hn H
  cases h : inB n 1 10
  all_goals
    have HQ := hid h
    go_enter Try.func126, Try.ntmps126
    go_wp2_with (first | (go_at_call 123; refine (mwithin_c _ _ _ _).mono ?_; rintro e w1 ⟨rfl, rfl⟩) | (refine HC.out.mono ?_; rintro e w1 ⟨rfl, hb1⟩))
    go_ret
    first
      | exact ⟨ret_bool (by unfold okMRow; rw [HN.out, HQ.out]; simp), hb1⟩
      | exact ⟨ret_bool (by unfold okMRow; rw [HN.out, HQ.out]; simp), Below.refl _ _⟩

theorem valid1 (w : World) (b : Nat) (a : Option Addr) (n cap : Nat) (M : Mask) (hn : M.length = n) (hm : n ≤ maxLen) (h0 : 0 < n) (H : RowsAt w a M) (hb : b < w.heap.size) (hc : w.cell? ⟨b, 0, none⟩ = some (.slice a n cap)) :
    PredR Try.prog 125 #[.pointer (some ⟨b, 0, none⟩)] w (fun l => decide (l.length = colsM M) && okMRow l) := by
  intro x v W hbw hv
  have hc' : W.cell? ⟨b, 0, none⟩ = some (.slice a n cap) := (hbw.cell (p := ⟨b, 0, none⟩) hb).trans hc
  obtain ⟨ra, rn, rc, rfl, hrn, hrm, hri⟩ := hv
  have HR := hid (mrow_c W ra rn rc x hrn hrm hri)
  obtain ⟨b', off, qa, qn, qc, rfl, hbs, hq0, hqn, hqm, hqi⟩ := (H.below hbw) 0 (by omega)
  have HCols : colsM M = qn := by unfold colsM; rw [List.getElem?_eq_getElem (by omega), ← hqn]; rfl
  have HCO := hid HCols
  have HRN := hid hrn
  unfold maxLen at hm
  simp only [Nat.add_zero] at hq0
  clear HCols hrn hri hqn hqi H hc
  by_cases h : rn = qn
  all_goals
    have hd : ((rn : Int) == (qn : Int)) = decide (rn = qn) := by rw [Bool.eq_iff_iff]; simp; omega
    have HQ := hid h
    first
      | rw [decide_eq_true h] at hd
      | rw [decide_eq_false h] at hd
    clear h
    go_enter Try.func125, Try.ntmps125
    go_wp2_with (go_at_call 126; refine HR.out.mono ?_; rintro e w1 ⟨rfl, hb1⟩)
    go_ret
    first
      | exact ⟨ret_bool (by rw [HRN.out, HCO.out, decide_eq_true HQ.out]; simp), hb1⟩
      | exact ⟨ret_bool (by rw [HRN.out, HCO.out, decide_eq_false HQ.out]; simp), Below.refl _ _⟩

theorem maskValid_c (w : World) (a : Option Addr) (n cap : Nat) (M : Mask) (hn : M.length = n) (hm : n ≤ maxLen) (H : RowsAt w a M) :
    Calls Try.prog 69 #[.slice a n cap] w fun e w' => e = .returned (.bool (okM M)) ∧ Below w.heap.size w w' := by
  have hb0 : Below w.heap.size w (w.alloc (.cells #[.slice a n cap] 23)) := (Below.refl _ _).alloc (Nat.le_refl _) _
  have hmf : ∀ (fn : Fn) (first cap : Array Value) (w : World), (Instr.makeFunc fn first cap).run Try.prog w = .ok (.func fn first cap) w := fun _ _ _ _ => rfl
  cases h : inB n 1 6
  · have HQ := hid h
    have HN := hid hn
    clear hn H
    go_enter Try.func69, Try.ntmps69
    go_wp2_with (go_at_call 123; refine (mwithin_c _ _ _ _).mono ?_; rintro e w1 ⟨rfl, rfl⟩)
    go_ret
    exact ⟨ret_bool (by unfold okM; rw [HN.out, HQ.out]; simp), hb0⟩
  · have h0 : 0 < n := by unfold inB at h; simp at h; omega
    have HC := hid (allR_c (w.alloc (.cells #[.slice a n cap] 23)) a n cap M hn hm (H.below hb0) 125 #[.pointer (some ⟨w.heap.size, 0, none⟩)] _ (enters_of Try.func125 (by kernel_rfl) rfl)
      (valid1 _ w.heap.size a n cap M hn hm h0 (H.below hb0) (by simp) (by rw [World.cell?_alloc_at _ _ _ _ rfl]; rfl)))
    have HQ := hid h
    have HN := hid hn
    clear hn H
    go_enter Try.func69, Try.ntmps69
    go_wp2_with (first | (go_at_call 123; refine (mwithin_c _ _ _ _).mono ?_; rintro e w1 ⟨rfl, rfl⟩) | (refine HC.out.mono ?_; rintro e w1 ⟨rfl, hb1⟩))
    go_ret
    exact ⟨ret_bool (by unfold okM; rw [HN.out, HQ.out]; simp), chain hb0 hb1⟩
end Go.Proofs.Ytfipebkhomppmaa

namespace Go.Proofs.Ytfipebkhomppmaa
open Go.RowKit
set_option linter.unusedVariables false

theorem run_append_nilsrc {P : Program} {w : World} (base : Nat) (t ty e : TypeId) (i : TypeInfo) (size c : Nat) (ht : P.underlying t = some (.slice e)) (hi : P.info? e = some i)
    (v : Value) (n : Nat) (xs : List Value) (hown : w.ownsRow base e size v n xs) : (Builtin.append_ #[t, t] ty #[v, .slice none 0 c]).run P w = .ok v w := by
  rcases hown.2 with ⟨rfl, rfl⟩ | ⟨g, cap, cur, rfl, _, _, hnc, _⟩
  · simp [Builtin.append_, run_underlying ht, sizeOf, typeInfo, hi, Builtin.lenOf, Builtin.firstCells]
  · simp [Builtin.append_, run_underlying ht, sizeOf, typeInfo, hi, Builtin.lenOf, Builtin.firstCells, hnc, storeCells]

theorem wpList_app {P : Program} (w : World) {ops : Array Oper} {rest : List Oper} {o : Oper} {a : Act} {Q : Exit → Act → World → Prop} (hgd : o.guard = none) (s x : Operand) (t : TypeId)
    (ho : o.op = .call { callee := .builtin .append, args := #[s, x], argTypes := #[t, t] })
    (base : Nat) (e : TypeId) (z : Value) (size bytes : Nat) (ht : P.underlying t = some (.slice e)) (hinfo : (P.info? e).map (fun i => (i.zero, i.size, i.bytes)) = some (some z, size, bytes))
    (hzs : z.cells.size = size) (hsz : 0 < size)
    (v : Value) (n : Nat) (xs : List Value) (hs : a.eval s = v) (hown : w.ownsRow base e size v n xs)
    (ao : Option Addr) (m c : Nat) (news : List Value) (hx : a.eval x = .slice ao m c) (hl : news.length = m * size) (hnone : ao = none → m = 0)
    (hnews : ∀ ad, ao = some ad → ∀ j u, news[j]? = some u → w.cell? (ad.add j) = some u) (h1 : ∀ u ∈ news, u.oneCell' = true)
    (h63 : n + m ≤ maxLen) (hbytes : (n + m) * bytes ≤ 140737488355328) (hbase : base ≤ w.heap.size)
    (h : ∀ a' c' w', w'.ownsRow base e size (.slice a' (n + m) c') (n + m) (xs ++ news) → w.grownBy w' v.ownBlock → wpList P ops Q rest (a.put o.dst (.slice a' (n + m) c')) w') : wpList P ops Q (o :: rest) a w := by
  obtain ⟨i, hi, hz, h2, h3⟩ := info_parts hinfo
  cases ao with
  | some ad =>
    refine wpList_append_own w hgd s x t ho base e i z size bytes ht hi hz h2 h3 hzs hsz v n xs hs hown ad m c news hx hl (hnews ad rfl) h1 h63 hbytes hbase ?_
    intro v' w' ho' hg _
    obtain ⟨a', c', rfl⟩ := ownsRow_slice ho'
    exact h a' c' w' ho' hg
  | none =>
    obtain rfl := hnone rfl
    have hnil : news = [] := List.eq_nil_of_length_eq_zero (by simpa using hl)
    subst hnil
    refine wpList_plain hgd fun K hK => ?_
    have hrun := run_append_nilsrc (P := P) (w := w) base t o.type e i size c ht hi v n xs hown
    obtain ⟨a', c', rfl⟩ := ownsRow_slice hown
    unfold Oper.wp
    simp [execOp, ho, resolve, invoke, builtin, hs, hx, hrun, Result.andThen]
    exact hK _ _ (h a' c' w (by simpa using hown) (World.grownBy.refl _ _))

theorem ints_news {w : World} {a : Option Addr} {l : List Int} (H : IntsAt w a l) : ∀ ad, a = some ad → ∀ j u, (l.map (Value.int .i64))[j]? = some u → w.cell? (ad.add j) = some u := by
  intro ad ha j u hu
  rw [List.getElem?_map] at hu
  obtain ⟨x, hx, rfl⟩ := Option.map_eq_some_iff.1 hu
  obtain ⟨hj, e⟩ := List.getElem?_eq_some_iff.1 hx
  obtain ⟨b, off, ea, hb, hc⟩ := H j hj
  rw [ha] at ea
  cases ea
  rw [Addr.add_lit, hc, hx]; rfl
theorem ints_none {w : World} {a : Option Addr} {l : List Int} (H : IntsAt w a l) : a = none → l.length = 0 := by
  intro ha
  rcases Nat.eq_zero_or_pos l.length with h | h
  · exact h
  · obtain ⟨_, _, e, _⟩ := H 0 h; rw [ha] at e; cases e
theorem one_news (w : World) (x : Value) (t : TypeId) : ∀ ad, (some ⟨w.heap.size, 0, none⟩ : Option Addr) = some ad → ∀ j u, [x][j]? = some u → (w.alloc (.cells #[x] t)).cell? (ad.add j) = some u := by
  intro ad e j u hu
  cases e
  match j, hu with
  | 0, hu =>
    simp at hu; subst hu
    rw [Addr.add_lit, World.cell?_alloc_at _ _ _ _ rfl]; rfl
theorem le_alloc (w : World) (o : Obj) : w.heap.size ≤ (w.alloc o).heap.size := by simp
theorem slice_oneCell (a : Option Addr) (n c : Nat) : ∀ u ∈ [Value.slice a n c], u.oneCell' = true := by intro u hu; simp at hu; subst hu; rfl
theorem no_none {α : Type} {a : α} {p : Prop} : some a = none → p := fun h => by cases h
theorem cells_set {w : World} {b : Nat} {c : Array Value} {E : TypeId} {f : Nat × Nat} (h : w.heap[b]? = some (.cells c E f)) (j : Nat) (v : Value) :
    (w.setCell ⟨b, j, none⟩ v).heap[b]? = some (.cells (c.setIfInBounds j v) E f) := by
  obtain ⟨hlt, hk⟩ := Array.getElem?_eq_some_iff.1 h
  show (w.heap.modify b _)[b]? = _
  rw [Array.getElem?_eq_getElem (by rw [Array.size_modify]; exact hlt), Array.getElem_modify_self, hk]
  rfl
theorem below_set {B : Nat} {a w : World} (h : Below B a w) {b : Nat} (hb : B ≤ b) (o : Nat) (v : Value) : Below B a (w.setCell ⟨b, o, none⟩ v) := h.setCell (p := ⟨b, o, none⟩) hb v
end Go.Proofs.Ytfipebkhomppmaa

namespace Go.Proofs.Ytfipebkhomppmaa
open Go.RowKit
set_option linter.unusedVariables false

theorem drewN_add (w : World) (a b : Nat) : (w.drewN a).drewN b = w.drewN (a + b) := by simp [World.drewN, Nat.add_assoc]
theorem gcd_mod (x y : Nat) (hy : 0 < y) : Nat.gcd y (x % y) = Nat.gcd x y := by rw [Nat.gcd_comm x y, Nat.gcd_rec y x, Nat.gcd_comm]

theorem divisor_c (w : World) (a b : Int) (ha : -4611686018427387904 ≤ a ∧ a ≤ 4611686018427387904) (hb : -4611686018427387904 ≤ b ∧ b ≤ 4611686018427387904) :
    Calls Try.prog 76 #[.int .i64 a, .int .i64 b] w fun e w' => e = .returned (.int .i64 (Int.gcd a b : Nat)) ∧ ∃ k, w' = w.drewN k := by
  obtain ⟨x, hx⟩ : ∃ x : Nat, x = a.natAbs := ⟨_, rfl⟩
  obtain ⟨y, hy⟩ : ∃ y : Nat, y = b.natAbs := ⟨_, rfl⟩
  have HG := hid (show Nat.gcd x y = Int.gcd a b by rw [hx, hy]; rfl)
  have hx2 : x ≤ 4611686018427387904 := by omega
  have hy2 : y ≤ 4611686018427387904 := by omega
  obtain ⟨ha1, ha2⟩ := ha
  obtain ⟨hb1, hb2⟩ := hb
  rcases Int.lt_or_le a 0 with sa | sa <;> rcases Int.lt_or_le b 0 with sb | sb
  all_goals
    have HX := hid hx
    have HY := hid hy
    clear hx hy
    go_enter Try.func76, Try.ntmps76
    go_wp2
    go_loopw [0, 1] (fun u v wr => ∃ p q : Nat, u = .int .i64 p ∧ v = .int .i64 q ∧ p ≤ 4611686018427387904 ∧ q ≤ 4611686018427387904 ∧ Nat.gcd p q = Nat.gcd x y ∧ ∃ k, wr = w.drewN k) (fun _ v _ => (intOf v).toNat)
    case atStart =>
      have h1 := HX.out
      have h2 := HY.out
      exact ⟨x, y, by congr 1; omega, by congr 1; omega, hx2, hy2, rfl, 0, rfl⟩
    case round =>
      obtain ⟨p, q, rfl, rfl, hp, hq, hg, k, rfl⟩ := hrel
      have HGG := hid hg
      clear hg
      by_cases h0 : q = 0
      · subst h0
        go_wp2
        go_ret
        refine ⟨ret_int ?_, _, rfl⟩
        have h1 := HGG.out
        rw [Nat.gcd_zero_right] at h1
        rw [h1, HG.out]
      · have hq1 : 1 ≤ q := by omega
        have hne : ((q : Int) != 0) = true := by simp; omega
        clear h0
        have hm1 : p % q < q := Nat.mod_lt _ hq1
        have hgm := gcd_mod p q hq1
        have HGM := hid (hgm.trans HGG.out)
        have HM := hid hm1
        have HE := hid (show ((p : Int) % (q : Int)) = ((p % q : Nat) : Int) by simp)
        clear hgm hm1
        go_wp2
        go_quiet (fail)
        go_wp2
        have hm1 := HM.out
        exact ⟨⟨q, p % q, rfl, by rw [HE.out], hq, by omega, HGM.out, _, drewN_add _ _ _⟩, by rw [HE.out]; simp [intOf]; omega⟩
end Go.Proofs.Ytfipebkhomppmaa

namespace Go.Proofs.Ytfipebkhomppmaa
open Go.RowKit
set_option linter.unusedVariables false

theorem r2within_c (n lo hi : Int) (w : World) : Calls Try.prog 121 #[.int .i64 n, .int .i64 lo, .int .i64 hi] w fun e w' => e = .returned (.bool (inB n lo hi)) ∧ w = w' := by
  by_cases h1 : lo ≤ n <;> by_cases h2 : n ≤ hi
  all_goals
    go_enter Try.func121, Try.ntmps121
    go_wp2
    go_ret
    exact ⟨ret_bool (by simp [inB, h1, h2]), rfl⟩
theorem r3within_c (n lo hi : Int) (w : World) : Calls Try.prog 96 #[.int .i64 n, .int .i64 lo, .int .i64 hi] w fun e w' => e = .returned (.bool (inB n lo hi)) ∧ w = w' := by
  by_cases h1 : lo ≤ n <;> by_cases h2 : n ≤ hi
  all_goals
    go_enter Try.func96, Try.ntmps96
    go_wp2
    go_ret
    exact ⟨ret_bool (by simp [inB, h1, h2]), rfl⟩

theorem all_stop {α : Type} {p : α → Bool} {l : List α} {k : Nat} (hk : k < l.length) (h : p l[k] = false) : l.all p = false := by
  rw [List.all_eq_false]; exact ⟨l[k], List.getElem_mem hk, by simp [h]⟩
theorem all_done {α : Type} {p : α → Bool} {l : List α} (h : ∀ j (hj : j < l.length), p l[j] = true) : l.all p = true := by
  rw [List.all_eq_true]
  intro x hx
  obtain ⟨i, hi, e⟩ := List.getElem_of_mem hx
  rw [← e]; exact h i hi

theorem r2row_c (w : World) (a : Option Addr) (n cap : Nat) (l : List Int) (hn : l.length = n) (hm : n ≤ maxLen) (H : IntsAt w a l) :
    Calls Try.prog 120 #[.slice a n cap] w fun e w' => e = .returned (.bool (okMRow l)) ∧ w = w' := by
  have HN := hid hn
  have HH := hid H
  clear hn H
  unfold maxLen at hm
  go_enter Try.func120, Try.ntmps120
  go_wp2
  go_loop [7] (fun i => ∃ k : Nat, k ≤ n ∧ i = .int .i64 k ∧ ∀ j (hj : j < l.length), j < k → inB l[j] (-1) 1 = true) (fun i => n - (intOf i).toNat)
  case atStart => exact ⟨0, Nat.zero_le _, rfl, fun i _ h => by omega⟩
  case round =>
    obtain ⟨k, hk, rfl, hno⟩ := hrel
    have HNO := hid hno
    clear hno
    by_cases hlt : k < n
    · have hkl : k < l.length := by rw [HN.out]; exact hlt
      obtain ⟨b, off, rfl, hbs, hc⟩ := HH.out k hkl
      have hg : l[k]?.getD 0 = l[k] := by rw [List.getElem?_eq_getElem hkl]; rfl
      rw [hg] at hc
      obtain ⟨B, hB⟩ : ∃ B, B = inB l[k] (-1) 1 := ⟨_, rfl⟩
      have HW := hid (fun W => r2within_c l[k] (-1) 1 W)
      rw [← hB] at HW
      have HBB := hid hB
      have HKL := hid hkl
      clear hg hB
      cases B
      · go_wp2_with (go_at_call 121; refine (HW.out _).mono ?_; rintro e w1 ⟨rfl, rfl⟩)
        go_ret
        refine ⟨ret_bool ?_, rfl⟩
        unfold okMRow
        rw [all_stop HKL.out HBB.out.symm]; simp
      · go_wp2_with (go_at_call 121; refine (HW.out _).mono ?_; rintro e w1 ⟨rfl, rfl⟩)
        go_round
        case rel =>
          refine ⟨k + 1, by omega, by go_num, fun j hj hjk => ?_⟩
          by_cases e : j = k
          · subst e; exact HBB.out.symm
          · exact HNO.out j hj (by omega)
        case measure => simp [intOf]; omega
    · go_wp2_with (go_at_call 121; refine (r2within_c _ _ _ _).mono ?_; rintro e w1 ⟨rfl, rfl⟩)
      go_ret
      refine ⟨ret_bool ?_, rfl⟩
      unfold okMRow
      rw [HN.out, all_done (fun j hj => HNO.out j hj (by have := HN.out; omega))]; simp

theorem r2Valid_c (w : World) (a : Option Addr) (n cap : Nat) (M : Mask) (hn : M.length = n) (hm : n ≤ maxLen) (H : RowsAt w a M) :
    Calls Try.prog 64 #[.slice a n cap] w fun e w' => e = .returned (.bool (okM M)) ∧ w = w' := by
  have HN := hid hn
  have HH := hid H
  clear hn H
  unfold maxLen at hm
  go_enter Try.func64, Try.ntmps64
  go_wp2
  go_loop [7] (fun i => ∃ k : Nat, k ≤ n ∧ i = .int .i64 k ∧ ∀ j (hj : j < M.length), j < k → (decide (M[j].length = colsM M) && okMRow M[j]) = true) (fun i => n - (intOf i).toNat)
  case atStart => exact ⟨0, Nat.zero_le _, rfl, fun i _ h => by omega⟩
  case round =>
    obtain ⟨k, hk, rfl, hno⟩ := hrel
    have HNO := hid hno
    clear hno
    by_cases hlt : k < n
    · have hkl : k < M.length := by rw [HN.out]; exact hlt
      obtain ⟨b, off, ra, rn, rc, rfl, hbs, hc, hrn, hrm, hri⟩ := HH.out k hkl
      obtain ⟨b', off', qa, qn, qc, e0, hbs', hc0, hqn, _, _⟩ := HH.out 0 (by omega)
      cases e0
      rw [Nat.add_zero] at hc0
      have hcol : colsM M = qn := by unfold colsM; rw [List.getElem?_eq_getElem (by omega), ← hqn]; rfl
      have HW := hid (r2row_c w ra rn rc M[k] hrn hrm hri)
      obtain ⟨B, hB⟩ : ∃ B, B = okMRow M[k] := ⟨_, rfl⟩
      rw [← hB] at HW
      have HBB := hid hB
      have HKL := hid hkl
      have HCol := hid hcol
      have HRN := hid hrn
      unfold maxLen at hrm
      have h0 : 0 < n := by omega
      clear hB hcol hrn hqn hri
      cases B
      · go_wp2_with (go_at_call 120; refine HW.out.mono ?_; rintro e w1 ⟨rfl, rfl⟩)
        go_ret
        refine ⟨ret_bool ?_, rfl⟩
        unfold okM
        rw [all_stop HKL.out (by rw [← HBB.out]; simp)]; simp
      · by_cases hq : rn = qn
        · have hd : ((rn : Int) != (qn : Int)) = false := by simp [hq]
          have HQ := hid hq
          clear hq
          go_wp2_with (go_at_call 120; refine HW.out.mono ?_; rintro e w1 ⟨rfl, rfl⟩)
          go_round
          case rel =>
            refine ⟨k + 1, by omega, by go_num, fun j hj hjk => ?_⟩
            by_cases e : j = k
            · subst e; rw [← HBB.out, HCol.out, HRN.out, HQ.out]; simp
            · exact HNO.out j hj (by omega)
          case measure => simp [intOf]; omega
        · have hd : ((rn : Int) != (qn : Int)) = true := by simp; omega
          have HQ := hid hq
          clear hq
          go_wp2_with (go_at_call 120; refine HW.out.mono ?_; rintro e w1 ⟨rfl, rfl⟩)
          go_ret
          refine ⟨ret_bool ?_, rfl⟩
          unfold okM
          rw [all_stop HKL.out (by rw [HCol.out, HRN.out]; simp [HQ.out])]; simp
    · go_wp2_with (go_at_call 121; refine (r2within_c _ _ _ _).mono ?_; rintro e w1 ⟨rfl, rfl⟩)
      go_ret
      refine ⟨ret_bool ?_, rfl⟩
      unfold okM
      rw [HN.out, all_done (fun j hj => HNO.out j hj (by have := HN.out; omega))]; simp

theorem sameInts_c (w : World) (a a2 : Option Addr) (n cap n2 cap2 : Nat) (l l2 : List Int) (hn : l.length = n) (hn2 : l2.length = n2) (hm : n ≤ maxLen) (hm2 : n2 ≤ maxLen) (H : IntsAt w a l) (H2 : IntsAt w a2 l2) :
    Calls Try.prog 22 #[.slice a n cap, .slice a2 n2 cap2] w fun e w' => e = .returned (.bool (decide (l = l2))) ∧ ∃ k, w' = w.drewN k := by
  have HN := hid hn
  have HN2 := hid hn2
  have HH := hid H
  have HH2 := hid H2
  clear hn hn2 H H2
  unfold maxLen at hm hm2
  by_cases hl : n = n2
  · have hd : ((n : Int) != (n2 : Int)) = false := by simp [hl]
    have HL := hid hl
    clear hl
    go_enter Try.func22, Try.ntmps22
    go_wp2
    go_loopw [13] (fun i wr => ∃ k : Nat, k ≤ n ∧ i = .int .i64 k ∧ (∃ q, wr = w.drewN q) ∧ ∀ j (hj : j < l.length) (hj2 : j < l2.length), j < k → l[j] = l2[j]) (fun i _ => n - (intOf i).toNat)
    case atStart => exact ⟨0, Nat.zero_le _, rfl, ⟨0, rfl⟩, fun i _ _ h => by omega⟩
    case round =>
      obtain ⟨k, hk, rfl, ⟨q, rfl⟩, hno⟩ := hrel
      have HNO := hid hno
      clear hno
      by_cases hlt : k < n
      · have hkl : k < l.length := by rw [HN.out]; exact hlt
        have hkl2 : k < l2.length := by rw [HN2.out, ← HL.out]; exact hlt
        obtain ⟨b, off, rfl, hbs, hc⟩ := HH.out k hkl
        obtain ⟨b2, off2, rfl, hbs2, hc2⟩ := HH2.out k hkl2
        have hg : l[k]?.getD 0 = l[k] := by rw [List.getElem?_eq_getElem hkl]; rfl
        have hg2 : l2[k]?.getD 0 = l2[k] := by rw [List.getElem?_eq_getElem hkl2]; rfl
        rw [hg] at hc
        rw [hg2] at hc2
        have hlt2 : k < n2 := by have := HL.out; omega
        have HKL := hid hkl
        have HKL2 := hid hkl2
        clear hg hg2
        by_cases he : l[k] = l2[k]
        · have hb : (l[k] != l2[k]) = false := by simp [he]
          have HE := hid he
          clear he
          go_wp2
          go_quiet (fail)
          go_wp2
          refine ⟨⟨k + 1, by omega, by go_num, ⟨_, rfl⟩, fun j hj hj2 hjk => ?_⟩, by simp [intOf]; omega⟩
          by_cases e : j = k
          · subst e; exact HE.out
          · exact HNO.out j hj hj2 (by omega)
        · have hb : (l[k] != l2[k]) = true := by simp [he]
          have HE := hid he
          clear he
          go_wp2
          go_quiet (fail)
          go_wp2
          go_ret
          refine ⟨ret_bool ?_, q + nq, drewN_add _ _ _⟩
          symm
          rw [decide_eq_false_iff_not]
          rintro rfl
          exact HE.out rfl
      · go_wp2
        go_ret
        refine ⟨ret_bool ?_, _, rfl⟩
        symm
        rw [decide_eq_true_iff]
        have h1 := HN.out
        have h2 := HN2.out
        have h3 := HL.out
        exact List.ext_getElem (by omega) fun i g1 g2 => HNO.out i g1 g2 (by omega)
  · have hd : ((n : Int) != (n2 : Int)) = true := by simp; omega
    have HL := hid hl
    clear hl
    go_enter Try.func22, Try.ntmps22
    go_wp2
    go_ret
    refine ⟨ret_bool ?_, 0, rfl⟩
    symm
    rw [decide_eq_false_iff_not]
    rintro rfl
    exact HL.out (HN.out.symm.trans HN2.out)

set_option maxHeartbeats 1000000 in
theorem sameLists_c (w : World) (a a2 : Option Addr) (n cap n2 cap2 : Nat) (A B : Mask) (hn : A.length = n) (hn2 : B.length = n2) (hm : n ≤ maxLen) (hm2 : n2 ≤ maxLen) (H : RowsAt w a A) (H2 : RowsAt w a2 B) :
    Calls Try.prog 21 #[.slice a n cap, .slice a2 n2 cap2] w fun e w' => e = .returned (.bool (decide (A = B))) ∧ ∃ k, w' = w.drewN k := by
  have HN := hid hn
  have HN2 := hid hn2
  have HH := hid H
  have HH2 := hid H2
  clear hn hn2 H H2
  unfold maxLen at hm hm2
  by_cases hl : n = n2
  · have hd : ((n : Int) != (n2 : Int)) = false := by simp [hl]
    have HL := hid hl
    clear hl
    go_enter Try.func21, Try.ntmps21
    go_wp2
    go_loopw [13] (fun i wr => ∃ k : Nat, k ≤ n ∧ i = .int .i64 k ∧ (∃ q, wr = w.drewN q) ∧ ∀ j (hj : j < A.length) (hj2 : j < B.length), j < k → A[j] = B[j]) (fun i _ => n - (intOf i).toNat)
    case atStart => exact ⟨0, Nat.zero_le _, rfl, ⟨0, rfl⟩, fun i _ _ h => by omega⟩
    case round =>
      obtain ⟨k, hk, rfl, hq, hno⟩ := hrel
      have hbw : Below w.heap.size w wr := by obtain ⟨q, rfl⟩ := hq; exact below_drewN (Below.refl _ _) q
      have HQ := hid hq
      have HNO := hid hno
      clear hno hq
      by_cases hlt : k < n
      · have hkl : k < A.length := by rw [HN.out]; exact hlt
        have hkl2 : k < B.length := by rw [HN2.out, ← HL.out]; exact hlt
        obtain ⟨b, off, ra, rn, rc, rfl, hbs, hc, hrn, hrm, hri⟩ := (HH.out.below hbw) k hkl
        obtain ⟨b', off', ra', rn', rc', rfl, hbs', hc', hrn', hrm', hri'⟩ := (HH2.out.below hbw) k hkl2
        have HI := hid (fun q2 => sameInts_c (wr.drewN q2) ra ra' rn rc rn' rc' A[k] B[k] hrn hrn' hrm hrm' (hri.below (below_drewN (Below.refl _ _) q2)) (hri'.below (below_drewN (Below.refl _ _) q2)))
        have hlt2 : k < n2 := by have := HL.out; omega
        have HKL := hid hkl
        have HKL2 := hid hkl2
        clear hri hri' hrn hrn'
        by_cases he : A[k] = B[k]
        · have HE := hid he
          have HS := hid (fun q2 => (HI.out q2).mono fun e w' ⟨h1, h2⟩ => show e = Ending.returned (.bool true) ∧ ∃ k, w' = (wr.drewN q2).drewN k from ⟨h1.trans (ret_bool (decide_eq_true he)), h2⟩)
          clear he HI
          go_wp2
          go_quiet ((go_at_call 22; exact Calls.quiet_of (HS.out _)))
          go_wp2
          refine ⟨⟨k + 1, by omega, by go_num, (by obtain ⟨q, e⟩ := HQ.out; exact ⟨_, by rw [e, drewN_add]⟩), fun j hj hj2 hjk => ?_⟩, by simp [intOf]; omega⟩
          by_cases e : j = k
          · subst e; exact HE.out
          · exact HNO.out j hj hj2 (by omega)
        · have HE := hid he
          have HS := hid (fun q2 => (HI.out q2).mono fun e w' ⟨h1, h2⟩ => show e = Ending.returned (.bool false) ∧ ∃ k, w' = (wr.drewN q2).drewN k from ⟨h1.trans (ret_bool (decide_eq_false he)), h2⟩)
          clear he HI
          go_wp2
          go_quiet ((go_at_call 22; exact Calls.quiet_of (HS.out _)))
          go_wp2
          go_ret
          refine ⟨ret_bool ?_, (by obtain ⟨q, e⟩ := HQ.out; exact ⟨_, by rw [e, drewN_add]⟩)⟩
          symm
          rw [decide_eq_false_iff_not]
          rintro rfl
          exact HE.out rfl
      · go_wp2
        go_ret
        refine ⟨ret_bool ?_, HQ.out⟩
        symm
        rw [decide_eq_true_iff]
        have h1 := HN.out
        have h2 := HN2.out
        have h3 := HL.out
        exact List.ext_getElem (by omega) fun i g1 g2 => HNO.out i g1 g2 (by omega)
  · have hd : ((n : Int) != (n2 : Int)) = true := by simp; omega
    have HL := hid hl
    clear hl
    go_enter Try.func21, Try.ntmps21
    go_wp2
    go_ret
    refine ⟨ret_bool ?_, 0, rfl⟩
    symm
    rw [decide_eq_false_iff_not]
    rintro rfl
    exact HL.out (HN.out.symm.trans HN2.out)
end Go.Proofs.Ytfipebkhomppmaa

namespace Go.Proofs.Ytfipebkhomppmaa
open Go.RowKit
set_option linter.unusedVariables false

section
variable {P : Program} {ops : Array Oper} {Q : Exit → Act → World → Prop} {md : Region.Mode} {S : World → Prop}

theorem wpOp_inRound (l n : Nat) {i : Nat} {K : Act → World → Prop} {a : Act} {w : World} (hd : ∀ o, ops[i]? = some o → (∀ c, o.op ≠ .defer c)) (hq : ¬ LetsOut Q)
    (h : wpOp P ops Q i K a w) : wpOpIn (Fence.wide.inRound l) n P ops Q i K a w := by
  unfold wpOp at h
  unfold wpOpIn
  cases ho : ops[i]? with
  | none => simpa [ho] using h
  | some o =>
    simp only [ho] at h ⊢
    split
    · rename_i hw
      simp only [hw, if_true] at h
      have h := h.resolve_right (fun x => hq x.2)
      refine ⟨fun f _ => trivial, ?_⟩
      rw [Fence.inRound_round, Oper.semAt_some l a.eval o (hd o ho)]
      unfold Oper.wp at h
      generalize (execOp a.eval o).run P w = r at *
      cases r with
      | ok x w' =>
        cases x <;> simp only [Oper.upon, Oper.uponIn] at h ⊢ <;> first
          | exact h
          | exact ⟨fun h => by simp [Fence.wide] at h, CallsIn.inRound l (callsIn_wide.2 h)⟩
          | (refine ⟨fun h => by simp [Fence.wide] at h, fun c cs _ => ?_⟩
             obtain ⟨v, w'', hr, hs⟩ := h c cs
             exact ⟨v, w'', hr, (StepsIn.of_steps hs).mono fun m _ => fenced_wide P m⟩)
      | halt x w' => cases x <;> simp only [Oper.upon, Oper.uponIn] at h ⊢ <;> exact h
    · rename_i hw
      simp only [hw] at h
      exact ⟨fun f _ => trivial, h⟩

def AnyT (P : Program) (md : Region.Mode) (ops : Array Oper) (Q : Exit → Act → World → Prop) (T : Nat → World → Prop) : Nat → Array Bool → Act → World → Prop
  | 0, listed, a, w => Region.ready md ops listed = [] ∧ Q .normal a w
  | fuel + 1, listed, a, w =>
    (Region.ready md ops listed = [] → Q .normal a w) ∧
    ∀ j ∈ Region.ready md ops listed, wpOp P ops Q j (fun a' w' => T j w' ∧ AnyT P md ops Q T fuel (listed.setIfInBounds j true) a' w') a w

variable {T : Nat → World → Prop}

theorem AnyT.any : ∀ (fuel : Nat) (listed : Array Bool) (a : Act) (w : World), AnyT P md ops Q T fuel listed a w → wpAny P md ops Q fuel listed a w
  | 0, _, _, _, h => h
  | fuel + 1, _, _, _, h => ⟨h.1, fun i hi => wpOp_mono (fun a' w' h' => AnyT.any fuel _ a' w' h'.2) (h.2 i hi)⟩

theorem AnyT.inRound (l n : Nat) (hd : ∀ (i : Nat) o, ops[i]? = some o → (∀ c, o.op ≠ .defer c)) (hq : ¬ LetsOut Q) : ∀ (fuel : Nat) (listed : Array Bool) (a : Act) (w : World),
    AnyT P md ops Q T fuel listed a w → wpAnyIn (Fence.wide.inRound l) n P md ops Q fuel listed a w
  | 0, _, _, _, h => h
  | fuel + 1, _, _, _, h => ⟨h.1, fun i hi => wpOpIn_mono (fun a' w' h' => AnyT.inRound l n hd hq fuel _ a' w' h'.2) (wpOp_inRound l n (hd i) hq (h.2 i hi))⟩

theorem AnyT.first {i : Nat} {oi : Oper} {v : Value} (hi : ops[i]? = some oi) (hsel : ∀ (j : Nat) (o : Oper) cs b, ops[j]? = some o → o.op ≠ .select cs b)
    (hQ : ∀ c a w, Q (.panic c) (a.put oi.dst v) w → Q (.panic c) a w)
    (hT : ∀ (j : Nat) oj, ops[j]? = some oj → (∀ e ∈ oj.after, Region.binds md e = true → e.on ≠ i) → ∀ w, T j w → S w) (hTi : ∀ w, S w → T i w) :
    ∀ (fuel : Nat) (listed : Array Bool) (a : Act) (w : World),
      (∀ j oj, ops[j]? = some oj → j ≠ i → listed.getD j true = false → (∀ e ∈ oj.after, Region.binds md e = true → e.on ≠ i) → oi.apart ops oj = true) →
      i ∈ Region.ready md ops listed → YieldsIf P ops S oi v a → S w →
      AnyT P md ops Q T fuel (listed.setIfInBounds i true) (a.put oi.dst v) w → AnyT P md ops Q T (fuel + 1) listed a w := by
  intro fuel
  induction fuel with
  | zero =>
    intro listed a w _ hr hy hS H
    refine ⟨fun h => (by rw [h] at hr; cases hr), fun j hj => ?_⟩
    by_cases e : j = i
    · subst e; exact hy.wpOp hi hS ⟨hTi w hS, H⟩
    · have h0 := ready_mono hj e
      rw [H.1] at h0; cases h0
  | succ fuel ih =>
    intro listed a w hfree hr hy hS H
    refine ⟨fun h => (by rw [h] at hr; cases hr), fun j hj => ?_⟩
    by_cases e : j = i
    · subst e; exact hy.wpOp hi hS ⟨hTi w hS, H⟩
    · obtain ⟨hun, oj, hoj, hall⟩ := mem_ready.1 hj
      have hnot : ∀ x ∈ oj.after, Region.binds md x = true → x.on ≠ i := by
        intro x hx hb heq
        have h1 := hall x hx hb
        have h0 := (mem_ready.1 hr).1
        rw [heq] at h1
        rcases Nat.lt_or_ge i listed.size with hlt | hge
        · simp [hlt] at h0 h1; rw [h0] at h1; cases h1
        · simp [Array.getElem?_eq_none hge] at h1
      refine wpOp_mono (fun a' w' h3 => ?_) (wpOp_putIf hoj (hfree j oj hoj e hun hnot) (fun cs b => hsel i oi cs b hi) (fun cs b => hsel j oj cs b hoj) hQ hy (H.2 j (ready_mono hj e)))
      have hS' := hT j oj hoj hnot w' h3.2.1
      refine ⟨h3.2.1, ih (listed.setIfInBounds j true) a' w' ?_ (ready_mono hr (fun h => e h.symm)) h3.1 hS' ?_⟩
      · intro k ok hk hki hkun hno
        refine hfree k ok hk hki ?_ hno
        by_cases hjk : j = k
        · subst hjk; exact hun
        · rwa [getD_set_ne true hjk] at hkun
      · rw [Array.setIfInBounds_comm _ _ e]; exact h3.2.2

def waits (md : Region.Mode) (ops : Array Oper) (i j : Nat) : Bool := match ops[j]? with | some o => o.after.any (fun e => Region.binds md e && e.on == i) | none => true

theorem AnyT.take {i : Nat} {oi : Oper} {v : Value} {fuel : Nat} {listed : Array Bool} {a : Act} {w : World} (hi : ops[i]? = some oi)
    (hs : Region.noSelect ops = true) (hf : Region.free md ops listed i = true) (hr : (Region.ready md ops listed).contains i = true)
    (hQ : ∀ c a w, Q (.panic c) (a.put oi.dst v) w → Q (.panic c) a w)
    (hT : ∀ j, waits md ops i j = false → ∀ w, T j w → S w) (hTi : ∀ w, S w → T i w) (hy : YieldsIf P ops S oi v a) (hS : S w)
    (h : AnyT P md ops Q T fuel (listed.setIfInBounds i true) (a.put oi.dst v) w) : AnyT P md ops Q T (fuel + 1) listed a w :=
  AnyT.first hi (Region.noSelect_spec hs) hQ (fun j oj hj hno w hw => hT j (by
    unfold waits; rw [hj]
    simp only [Array.any_eq_false]
    intro k hk
    have := hno oj.after[k] (Array.getElem_mem hk)
    cases hb : Region.binds md oj.after[k] <;> simp [hb] at this ⊢
    exact this) w hw) hTi fuel listed a w (Region.free_spec hi hf) (by simpa using hr) hy hS h

theorem AnyT.takeW {i : Nat} {oi : Oper} {v : Value} {fuel : Nat} {listed : Array Bool} {a : Act} {w : World} {Wf : Nat → Bool} (hi : ops[i]? = some oi)
    (hs : Region.noSelect ops = true) (hf : Region.free md ops listed i = true) (hr : (Region.ready md ops listed).contains i = true)
    (hQ : ∀ c a w, Q (.panic c) (a.put oi.dst v) w → Q (.panic c) a w)
    (hW : (List.range ops.size).all (fun j => waits md ops i j || Wf j) = true) (hw : Region.wanted oi (yielded ops a.tmps) = true) (hy : ∀ w, S w → (execOp a.eval oi).run P w = .ok (.value v) w) (hS : S w)
    (h : AnyT P md ops Q (fun j w => Wf j = true → S w) fuel (listed.setIfInBounds i true) (a.put oi.dst v) w) : AnyT P md ops Q (fun j w => Wf j = true → S w) (fuel + 1) listed a w :=
  AnyT.take hi hs hf hr hQ (fun j hj w hT => hT (by
    by_cases e : j < ops.size
    · have := List.all_eq_true.1 hW j (List.mem_range.2 e)
      rw [hj] at this; simpa using this
    · unfold waits at hj; rw [Array.getElem?_eq_none (by omega)] at hj; cases hj)) (fun w hS _ => hS) (.inl ⟨hw, hy⟩) hS h

theorem AnyT.next {i : Nat} {o : Oper} {fuel : Nat} {listed : Array Bool} {a : Act} {w : World} (hr : Region.ready md ops listed = [i]) (ho : ops[i]? = some o)
    (h : wpOp P ops Q i (fun a' w' => T i w' ∧ AnyT P md ops Q T fuel (listed.setIfInBounds i true) a' w') a w) : AnyT P md ops Q T (fuel + 1) listed a w :=
  ⟨fun h0 => (by rw [hr] at h0; cases h0), fun j hj => by rw [hr] at hj; obtain rfl : j = i := (by simpa using hj); exact h⟩

theorem AnyT.done {listed : Array Bool} {a : Act} {w : World} (hr : Region.ready md ops listed = []) (h : Q .normal a w) : ∀ fuel, AnyT P md ops Q T fuel listed a w
  | 0 => ⟨hr, h⟩
  | _ + 1 => ⟨fun _ => h, by rw [hr]; simp⟩

def noDefer (ops : Array Oper) : Bool := ops.all fun o => match o.op with | .defer _ => false | _ => true
theorem noDefer_spec {ops : Array Oper} (h : noDefer ops = true) (i : Nat) (o : Oper) (ho : ops[i]? = some o) (c : Call) : o.op ≠ .defer c := by
  intro e
  unfold noDefer at h
  rw [Array.all_eq_true] at h
  obtain ⟨hlt, he⟩ := Array.getElem?_eq_some_iff.1 ho
  have := h i hlt
  rw [he, e] at this
  simp at this

theorem round_region (T : Nat → World → Prop) (l n : Nat) {id : Nat} {a : Act} {w : World} (hm : P.follows .mixedOrders = true) (hd : noDefer ops = true) (hq : ¬ LetsOut Q)
    (h : AnyT P .any ops Q T ops.size (Array.replicate ops.size false) a w.drew) : (Code.region id ops true).wpIn (Fence.wide.inRound l) n P Q a w :=
  wpIn_region_any hm (AnyT.inRound l n (noDefer_spec hd) hq _ _ _ _ h)

theorem plain_region (T : Nat → World → Prop) {id : Nat} {a : Act} {w : World} (hm : P.follows .mixedOrders = true)
    (h : AnyT P .any ops Q T ops.size (Array.replicate ops.size false) a w.drew) : (Code.region id ops true).wp P Q a w :=
  wp_region_any hm (AnyT.any _ _ _ _ h)

def oneQ (K : Act → World → Prop) (Q : Exit → Act → World → Prop) : Exit → Act → World → Prop
  | .normal, a, w => K a w
  | e, a, w => Q e a w

theorem wpOp_of_list {i : Nat} {o : Oper} {K : Act → World → Prop} {a : Act} {w : World} (ho : ops[i]? = some o)
    (h : wpList P ops (oneQ K Q) [o] a w) : wpOp P ops Q i K a w := by
  unfold wpOp
  simp only [ho]
  unfold wpList at h
  split
  · rename_i hw
    simp only [hw, if_true] at h
    rcases h with h | ⟨h, hl⟩
    · refine .inl ?_
      unfold Oper.wp at h ⊢
      generalize (execOp a.eval o).run P w = r at *
      cases r with
      | ok x w' =>
        cases x <;> simp only [Oper.upon] at h ⊢ <;> first
          | exact h
          | exact Calls.mono h (fun e w'' he => by cases e <;> exact he)
      | halt x w' => cases x <;> simp only [Oper.upon] at h ⊢ <;> exact h
    · exact .inr ⟨h, hl⟩
  · rename_i hw
    simp only [hw] at h
    exact h
end
end Go.Proofs.Ytfipebkhomppmaa

namespace Go.Proofs.Ytfipebkhomppmaa
open Go.RowKit
set_option linter.unusedVariables false

def SpRow (w : World) (g : Nat) (l : List Int) : Prop := ∃ sp : List Value, w.heap[g]? = some (.cells (l.map (Value.int .i64) ++ sp).toArray 3 (0, 0))
theorem SpRow.lt {w : World} {g : Nat} {l : List Int} (h : SpRow w g l) : g < w.heap.size := by obtain ⟨sp, h⟩ := h; exact (Array.getElem?_eq_some_iff.1 h).1
theorem SpRow.cell {w : World} {g : Nat} {l : List Int} (h : SpRow w g l) {j : Nat} (hj : j < l.length) : w.cell? ⟨g, j, none⟩ = some (.int .i64 (l[j]?.getD 0)) := by
  obtain ⟨sp, h⟩ := h
  simp [World.cell?, h, List.getElem?_append_left, hj]
theorem SpRow.frozen {w : World} {g : Nat} {l : List Int} (h : SpRow w g l) (j : Nat) : w.frozen? ⟨g, j, none⟩ = false := by
  obtain ⟨sp, h⟩ := h
  simp [World.frozen?, h]
theorem SpRow.keep {w w' : World} {g : Nat} {l : List Int} (h : SpRow w g l) (hk : w'.heap[g]? = w.heap[g]?) : SpRow w' g l := by
  obtain ⟨sp, h⟩ := h; exact ⟨sp, hk.trans h⟩
theorem SpRow.set {w : World} {g : Nat} {l : List Int} (h : SpRow w g l) (j : Nat) (hj : j < l.length) (n : Int) : SpRow (w.setCell ⟨g, j, none⟩ (.int .i64 n)) g (l.set j n) := by
  obtain ⟨sp, h⟩ := h
  refine ⟨sp, ?_⟩
  rw [cells_set h]
  congr 2
  apply Array.toList_inj.1
  simp [List.set_append, hj, List.map_set]
theorem SpRow.ints {w : World} {g : Nat} {l : List Int} (h : SpRow w g l) : IntsAt w (some ⟨g, 0, none⟩) l :=
  fun j hj => ⟨g, 0, rfl, h.lt, by rw [Nat.zero_add]; exact h.cell hj⟩

def OwnM (w : World) (base : Nat) (v : Value) (M : Mask) : Prop :=
  ∃ (g : Nat → Nat) (vs : List Value), w.ownsRow base 31 1 v M.length vs ∧ (∀ i j, i < M.length → j < M.length → g i = g j → i = j) ∧
    ∀ j (hj : j < M.length), (∃ x, vs[j]? = some (.slice (some ⟨g j, 0, none⟩) M[j].length (M[j].length + x))) ∧ base ≤ g j ∧ SpRow w (g j) M[j]

theorem OwnM.nil (w : World) (base : Nat) : OwnM w base (.slice none 0 0) [] :=
  ⟨fun _ => 0, [], World.ownsRow_nil _ _ _ _, fun i j hi => by simp at hi, fun j hj => by simp at hj⟩

theorem OwnM.keep {w w' : World} {base : Nat} {v : Value} {M : Mask} (h : OwnM w base v M) (hk : ∀ k, base ≤ k → k < w.heap.size → w'.heap[k]? = w.heap[k]?) : OwnM w' base v M := by
  obtain ⟨g, vs, ho, hi, he⟩ := h
  refine ⟨g, vs, ⟨ho.1, ?_⟩, hi, fun j hj => ?_⟩
  · rcases ho.2 with hn | ⟨g, cap, cur, rfl, hb, hgg, rest⟩
    · exact .inl hn
    · exact .inr ⟨g, cap, cur, rfl, hb, (hk g hb (Array.getElem?_eq_some_iff.1 hgg).1).trans hgg, rest⟩
  · obtain ⟨h1, h2, h3⟩ := he j hj
    exact ⟨h1, h2, h3.keep (hk _ h2 h3.lt)⟩

theorem OwnM.at {w : World} {base : Nat} {v : Value} {M : Mask} (h : OwnM w base v M) (i : Nat) (hi : i < M.length) :
    ∃ g0 cap gi c, v = .slice (some ⟨g0, 0, none⟩) M.length cap ∧ g0 < w.heap.size ∧ w.cell? ⟨g0, i, none⟩ = some (.slice (some ⟨gi, 0, none⟩) M[i].length c) ∧ base ≤ gi ∧ SpRow w gi M[i] ∧
      ∀ w' r', r'.length = M[i].length → SpRow w' gi r' → (∀ k, k < w.heap.size → k ≠ gi → w'.heap[k]? = w.heap[k]?) → OwnM w' base v (M.set i r') := by
  obtain ⟨g, vs, ho, hin, he⟩ := h
  rcases ho.2 with ⟨rfl, h0⟩ | ⟨g0, cap, cur, rfl, hbg, hgg, hnc, hcm, hsz, htk⟩
  · omega
  obtain ⟨⟨c, h1⟩, h2, h3⟩ := he i hi
  have hc := World.ownsRow.cellAt (w := w) (base := base) (e := 31) (size := 1) (g := g0) (n := M.length) (cap := cap) (xs := vs) ⟨ho.1, .inr ⟨g0, cap, cur, rfl, hbg, hgg, hnc, hcm, hsz, htk⟩⟩ i (by omega)
  refine ⟨g0, cap, g i, _, rfl, (Array.getElem?_eq_some_iff.1 hgg).1, by rw [hc, h1], h2, h3, ?_⟩
  intro w' r' hl hr hk
  have hne : g0 ≠ g i := by
    intro e
    obtain ⟨sp, h3⟩ := h3
    rw [← e, hgg] at h3
    cases h3
  refine ⟨g, vs, ⟨by simpa using ho.1, .inr ⟨g0, cap, cur, by simp, hbg, (hk g0 (Array.getElem?_eq_some_iff.1 hgg).1 hne).trans hgg, by simpa using hnc, hcm, hsz, by simpa using htk⟩⟩, fun a b ha hb => hin a b (by simpa using ha) (by simpa using hb), fun j hj => ?_⟩
  have hj' : j < M.length := by simpa using hj
  obtain ⟨⟨c', h1'⟩, h2', h3'⟩ := he j hj'
  by_cases e : i = j
  · subst e
    refine ⟨⟨c', ?_⟩, h2', ?_⟩
    · rw [h1']; simp [hl]
    · simpa using hr
  · refine ⟨⟨c', ?_⟩, h2', ?_⟩
    · rw [h1']; simp [List.getElem_set_ne e]
    · rw [List.getElem_set_ne e]
      exact h3'.keep (hk _ h3'.lt (fun e' => e ((hin j i hj' hi e').symm)))

theorem OwnM.rows {w : World} {base : Nat} {v : Value} {M : Mask} (h : OwnM w base v M) (hl : ∀ r ∈ M, r.length ≤ maxLen) : ∃ a cap, v = .slice a M.length cap ∧ RowsAt w a M := by
  by_cases h0 : M = []
  · subst h0
    obtain ⟨g, vs, ho, _⟩ := h
    obtain ⟨a, cap, rfl⟩ := ownsRow_slice ho
    exact ⟨a, cap, rfl, fun j hj => by simp at hj⟩
  · have hp : 0 < M.length := List.length_pos_iff.2 h0
    obtain ⟨g0, cap, _, _, rfl, _⟩ := h.at 0 hp
    refine ⟨some ⟨g0, 0, none⟩, cap, rfl, fun j hj => ?_⟩
    obtain ⟨g0', cap', gi, c, e, hlt, hc, _, hr, _⟩ := h.at j hj
    cases e
    exact ⟨g0, 0, some ⟨gi, 0, none⟩, _, c, rfl, hlt, by rw [Nat.zero_add]; exact hc, rfl, hl _ (List.getElem_mem hj), hr.ints⟩

theorem OwnM.snoc {w w1 w3 : World} {base gn cap : Nat} {v v' : Value} {M : Mask} {r : List Int} {g : Nat → Nat} {vs : List Value}
    (ho : w.ownsRow base 31 1 v M.length vs) (hin : ∀ i j, i < M.length → j < M.length → g i = g j → i = j)
    (he : ∀ j (hj : j < M.length), (∃ x, vs[j]? = some (.slice (some ⟨g j, 0, none⟩) M[j].length (M[j].length + x))) ∧ base ≤ g j ∧ SpRow w (g j) M[j])
    (hb1 : Below w.heap.size w w1) (hr : SpRow w1 gn r) (hgn : w.heap.size ≤ gn) (hcap : r.length ≤ cap) (hbase : base ≤ w.heap.size) (hg : w1.grownBy w3 v.ownBlock)
    (ho' : w3.ownsRow base 31 1 v' (M.length + 1) (vs ++ [.slice (some ⟨gn, 0, none⟩) r.length cap])) : OwnM w3 base v' (M ++ [r]) := by
  have hlen : vs.length = M.length := by have := ho.1; omega
  have hown : ∀ b, v.ownBlock = some b → b < w.heap.size ∧ ∃ c f, w.heap[b]? = some (.cells c 31 f) := by
    intro b hb
    rcases ho.2 with ⟨rfl, _⟩ | ⟨g, cap, cur, rfl, hbg, hgg, _⟩
    · simp [Value.ownBlock] at hb
    · obtain rfl : g = b := by simpa [Value.ownBlock] using hb
      exact ⟨(Array.getElem?_eq_some_iff.1 hgg).1, cur, _, hgg⟩
  have hold : ∀ b l, SpRow w b l → w3.heap[b]? = w.heap[b]? := by
    intro b l hs
    refine (hg.block b (Nat.lt_of_lt_of_le hs.lt hb1.size) ?_).trans (hb1.block b hs.lt)
    intro e
    obtain ⟨_, c, f, hc⟩ := hown b e.symm
    obtain ⟨sp, hs⟩ := hs
    rw [hs] at hc
    simp at hc
  have hnew : w3.heap[gn]? = w1.heap[gn]? := by
    refine hg.block gn hr.lt ?_
    intro e
    have := (hown gn e.symm).1
    omega
  refine ⟨fun j => if j < M.length then g j else gn, vs ++ [.slice (some ⟨gn, 0, none⟩) r.length cap], by simpa using ho', ?_, ?_⟩
  · intro i j hi hj e
    simp only [List.length_append, List.length_cons, List.length_nil, Nat.zero_add] at hi hj
    by_cases h1 : i < M.length <;> by_cases h2 : j < M.length <;> simp only [h1, h2, if_true, if_false] at e
    · exact hin i j h1 h2 e
    · have := (he i h1).2.2.lt; omega
    · have := (he j h2).2.2.lt; omega
    · omega
  · intro j hj
    simp only [List.length_append, List.length_cons, List.length_nil, Nat.zero_add] at hj
    by_cases h1 : j < M.length
    · obtain ⟨⟨c, hc⟩, h2, h3⟩ := he j h1
      simp only [h1, if_true]
      rw [List.getElem_append_left h1]
      exact ⟨⟨c, by rw [List.getElem?_append_left (by omega)]; exact hc⟩, h2, h3.keep (hold _ _ h3)⟩
    · obtain rfl : j = M.length := by omega
      simp only [Nat.lt_irrefl, if_false]
      rw [List.getElem_append_right (Nat.le_refl _)]
      simp only [Nat.sub_self, List.getElem_cons_zero]
      exact ⟨⟨cap - r.length, by rw [List.getElem?_append_right (by omega), hlen, show r.length + (cap - r.length) = cap by omega]; simp⟩, by omega, hr.keep hnew⟩

theorem spRow_own {w : World} {b0 : Nat} {v : Value} {l : List Int} {n : Nat} (h : w.ownsRow b0 3 1 v n (l.map (Value.int .i64))) (hn : l.length = n) (h0 : 0 < n) : ∃ g cap, v = .slice (some ⟨g, 0, none⟩) n cap ∧ b0 ≤ g ∧ SpRow w g l := by
  rcases h.2 with ⟨rfl, h1⟩ | ⟨g, cap, cur, rfl, hbg, hgg, hnc, hcm, hsz, htk⟩
  · omega
  · refine ⟨g, cap, rfl, hbg, cur.toList.drop n, ?_⟩
    rw [hgg]
    congr 2
    apply Array.toList_inj.1
    simp only [Nat.mul_one] at htk
    rw [← htk]
    simp

theorem own_cap {w : World} {base size n cap : Nat} {T : TypeId} {a : Option Addr} {xs : List Value} (h : w.ownsRow base T size (.slice a n cap) n xs) : n ≤ cap := by
  rcases h.2 with ⟨e, rfl⟩ | ⟨g, c, cur, e, hbg, hgg, hnc, _⟩
  · exact Nat.zero_le _
  · cases e; exact hnc
def OwnT (w : World) (base top : Nat) (v : Value) (M : List (List Int)) : Prop :=
  ∃ (g : Nat → Nat) (vs : List Value), w.ownsRow base 31 1 v M.length vs ∧ (∀ k, v.ownBlock = some k → k < top) ∧ (∀ i j, i < M.length → j < M.length → g i = g j → i = j) ∧
    ∀ j (hj : j < M.length), (∃ x, vs[j]? = some (.slice (some ⟨g j, 0, none⟩) M[j].length (M[j].length + x))) ∧ base ≤ g j ∧ g j < top ∧ SpRow w (g j) M[j]
theorem OwnT.of {w : World} {base : Nat} {v : Value} {M : List (List Int)} (h : OwnM w base v M) : OwnT w base w.heap.size v M := by
  obtain ⟨g, vs, ho, hi, he⟩ := h
  exact ⟨g, vs, ho, fun k hk => (ho.lt k hk).2, hi, fun j hj => by obtain ⟨h1, h2, h3⟩ := he j hj; exact ⟨h1, h2, h3.lt, h3⟩⟩
theorem OwnT.keep {w w' : World} {base top : Nat} {v : Value} {M : List (List Int)} (h : OwnT w base top v M) (hk : ∀ k, base ≤ k → k < top → k < w.heap.size → w'.heap[k]? = w.heap[k]?) : OwnT w' base top v M := by
  obtain ⟨g, vs, ho, ht, hi, he⟩ := h
  refine ⟨g, vs, ⟨ho.1, ?_⟩, ht, hi, fun j hj => ?_⟩
  · rcases ho.2 with hn | ⟨g, cap, cur, rfl, hb, hgg, rest⟩
    · exact .inl hn
    · exact .inr ⟨g, cap, cur, rfl, hb, (hk g hb (ht g rfl) (Array.getElem?_eq_some_iff.1 hgg).1).trans hgg, rest⟩
  · obtain ⟨h1, h2, h3, h4⟩ := he j hj
    exact ⟨h1, h2, h3, h4.keep (hk _ h2 h3 h4.lt)⟩
theorem OwnT.at {w : World} {base top : Nat} {v : Value} {M : List (List Int)} (h : OwnT w base top v M) (i : Nat) (hi : i < M.length) :
    ∃ g0 cap gi c, v = .slice (some ⟨g0, 0, none⟩) M.length cap ∧ g0 < w.heap.size ∧ base ≤ g0 ∧ g0 < top ∧ w.cell? ⟨g0, i, none⟩ = some (.slice (some ⟨gi, 0, none⟩) M[i].length c) ∧ (∀ j, w.frozen? ⟨g0, j, none⟩ = false) ∧ base ≤ gi ∧ gi < top ∧ g0 ≠ gi ∧ SpRow w gi M[i] ∧ M.length ≤ maxLen ∧ M.length ≤ cap ∧
      ∀ w' r', r'.length = M[i].length → SpRow w' gi r' → (∀ k, base ≤ k → k < top → k < w.heap.size → k ≠ gi → w'.heap[k]? = w.heap[k]?) → OwnT w' base top v (M.set i r') := by
  obtain ⟨g, vs, ho, ht, hin, he⟩ := h
  rcases ho.2 with ⟨rfl, h0⟩ | ⟨g0, cap, cur, rfl, hbg, hgg, hnc, hcm, hsz, htk⟩
  · omega
  obtain ⟨⟨c, h1⟩, h2, h3, h4⟩ := he i hi
  have hc := World.ownsRow.cellAt (w := w) (base := base) (e := 31) (size := 1) (g := g0) (n := M.length) (cap := cap) (xs := vs) ⟨ho.1, .inr ⟨g0, cap, cur, rfl, hbg, hgg, hnc, hcm, hsz, htk⟩⟩ i (by omega)
  have hne : g0 ≠ g i := by
    intro e
    obtain ⟨sp, h4⟩ := h4
    rw [← e, hgg] at h4
    cases h4
  refine ⟨g0, cap, g i, _, rfl, (Array.getElem?_eq_some_iff.1 hgg).1, hbg, ht g0 rfl, by rw [hc, h1], fun j => by simp [World.frozen?, hgg], h2, h3, hne, h4, by omega, hnc, ?_⟩
  intro w' r' hl hr hk
  refine ⟨g, vs, ⟨by simpa using ho.1, .inr ⟨g0, cap, cur, by simp, hbg, (hk g0 hbg (ht g0 rfl) (Array.getElem?_eq_some_iff.1 hgg).1 hne).trans hgg, by simpa using hnc, hcm, hsz, by simpa using htk⟩⟩, ht, fun a b ha hb => hin a b (by simpa using ha) (by simpa using hb), fun j hj => ?_⟩
  have hj' : j < M.length := by simpa using hj
  obtain ⟨⟨c', h1'⟩, h2', h3', h4'⟩ := he j hj'
  by_cases e : i = j
  · subst e
    refine ⟨⟨c', ?_⟩, h2', h3', ?_⟩
    · rw [h1']; simp [hl]
    · simpa using hr
  · refine ⟨⟨c', ?_⟩, h2', h3', ?_⟩
    · rw [h1']; simp [List.getElem_set_ne e]
    · rw [List.getElem_set_ne e]
      exact h4'.keep (hk _ h2' h3' h4'.lt (fun e' => e ((hin j i hj' hi e').symm)))

theorem swap_get {α : Type} {l : List α} {i j k : Nat} (hi : i < l.length) (hj : j < l.length) : ((l.set i l[j]).set j l[i])[k]? = if k = j then some l[i] else if k = i then some l[j] else l[k]? := by
  rw [List.getElem?_set, List.getElem?_set]
  by_cases e1 : k = j
  · subst e1; simp [hj]
  · rw [if_neg (Ne.symm e1), if_neg e1]
    by_cases e2 : k = i
    · subst e2; simp [hi]
    · rw [if_neg (Ne.symm e2), if_neg e2]

theorem OwnT.swap {w : World} {base top : Nat} {v : Value} {M : List (List Int)} (h : OwnT w base top v M) {i j : Nat} (hi : i < M.length) (hj : j < M.length) {g0 cap : Nat} {hi' hj' : Value} (hv : v = .slice (some ⟨g0, 0, none⟩) M.length cap)
    (ci : w.cell? ⟨g0, i, none⟩ = some hi') (cj : w.cell? ⟨g0, j, none⟩ = some hj') :
    OwnT ((w.setCell ⟨g0, i, none⟩ hj').setCell ⟨g0, j, none⟩ hi') base top v ((M.set i M[j]).set j M[i]) ∧ ∀ k, k ≠ g0 → ((w.setCell ⟨g0, i, none⟩ hj').setCell ⟨g0, j, none⟩ hi').heap[k]? = w.heap[k]? := by
  have hkeep : ∀ k, k ≠ g0 → ((w.setCell ⟨g0, i, none⟩ hj').setCell ⟨g0, j, none⟩ hi').heap[k]? = w.heap[k]? := fun k hk =>
    (Below.heap_setCell _ _ _ _ hk).trans (Below.heap_setCell _ _ _ _ hk)
  refine ⟨?_, hkeep⟩
  obtain ⟨g, vs, ho, ht, hin, he⟩ := h
  subst hv
  rcases ho.2 with ⟨hc, h0⟩ | ⟨g1, cap', cur, hv, hbg, hgg, hnc, hcm, hsz, htk⟩
  · cases hc
  cases hv
  have hcell := World.ownsRow.cellAt (w := w) (base := base) (e := 31) (size := 1) (g := g0) (n := M.length) (cap := cap) (xs := vs) ⟨ho.1, .inr ⟨g0, cap, cur, rfl, hbg, hgg, hnc, hcm, hsz, htk⟩⟩
  have hvl : vs.length = M.length := by have := ho.1; omega
  have ei : vs[i]'(by omega) = hi' := by have := hcell i (by omega); rw [ci, List.getElem?_eq_getElem (by omega)] at this; exact (Option.some.inj this).symm
  have ej : vs[j]'(by omega) = hj' := by have := hcell j (by omega); rw [cj, List.getElem?_eq_getElem (by omega)] at this; exact (Option.some.inj this).symm
  have hb2 : ((w.setCell ⟨g0, i, none⟩ hj').setCell ⟨g0, j, none⟩ hi').heap[g0]? = some (.cells ((cur.setIfInBounds i hj').setIfInBounds j hi') 31 (0, 0)) := cells_set (cells_set hgg i hj') j hi'
  have hcl : cur.toList.length = cap := by simpa using hsz
  have hML : M.length ≤ cap := hnc
  refine ⟨fun k => if k = j then g i else if k = i then g j else g k, (vs.set i (vs[j]'(by omega))).set j (vs[i]'(by omega)), ⟨by simpa using ho.1, .inr ⟨g0, cap, (cur.setIfInBounds i hj').setIfInBounds j hi', by simp, hbg, hb2, by simpa using hnc, hcm, by simpa using hsz, ?_⟩⟩, ht, ?_, ?_⟩
  · rw [ei, ej, ← htk]
    simp only [Array.toList_setIfInBounds, List.length_set, Nat.mul_one]
    rw [List.take_set, List.take_set]
  · intro a b ha hb
    have ha' : a < M.length := by simpa using ha
    have hb' : b < M.length := by simpa using hb
    have hs : ∀ k, (if k = j then g i else if k = i then g j else g k) = g (if k = j then i else if k = i then j else k) := fun k => by
      by_cases e1 : k = j
      · rw [if_pos e1, if_pos e1]
      · rw [if_neg e1, if_neg e1]
        by_cases e2 : k = i
        · rw [if_pos e2, if_pos e2]
        · rw [if_neg e2, if_neg e2]
    have hlt : ∀ k, k < M.length → (if k = j then i else if k = i then j else k) < M.length := fun k hk => by
      split
      · exact hi
      · split
        · exact hj
        · exact hk
    intro hg
    simp only [hs] at hg
    have h2 := hin _ _ (hlt a ha') (hlt b hb') hg
    clear hg hs hlt hin he
    (repeat' split at h2) <;> omega
  · intro k hk
    have hk' : k < M.length := by simpa using hk
    have hm := swap_get (k := k) hi hj
    rw [List.getElem?_eq_getElem (by simpa using hk')] at hm
    have hs := swap_get (l := vs) (i := i) (j := j) (k := k) (by omega) (by omega)
    have hsp : ∀ x, x < M.length → ((w.setCell ⟨g0, i, none⟩ hj').setCell ⟨g0, j, none⟩ hi').heap[g x]? = w.heap[g x]? := fun x hx => hkeep _ (by
      intro e
      obtain ⟨_, _, _, sp, h4⟩ := he x hx
      rw [e, hgg] at h4
      cases h4)
    by_cases e1 : k = j
    · subst e1
      obtain ⟨⟨c', h1'⟩, h2', h3', h4'⟩ := he i hi
      simp only [if_true] at hm hs ⊢
      have hm' := Option.some.inj hm
      rw [hm']
      refine ⟨⟨c', ?_⟩, h2', h3', h4'.keep (hsp i hi)⟩
      rw [hs, ← h1', List.getElem?_eq_getElem]
    · by_cases e2 : k = i
      · subst e2
        obtain ⟨⟨c', h1'⟩, h2', h3', h4'⟩ := he j hj
        simp only [if_neg e1, if_true] at hm hs ⊢
        have hm' := Option.some.inj hm
        rw [hm']
        refine ⟨⟨c', ?_⟩, h2', h3', h4'.keep (hsp j hj)⟩
        rw [hs, ← h1', List.getElem?_eq_getElem]
      · obtain ⟨⟨c', h1'⟩, h2', h3', h4'⟩ := he k hk'
        simp only [if_neg e1, if_neg e2] at hm hs ⊢
        rw [List.getElem?_eq_getElem hk'] at hm
        have hm' := Option.some.inj hm
        rw [hm']
        refine ⟨⟨c', ?_⟩, h2', h3', h4'.keep (hsp k hk')⟩
        rw [hs, h1']
theorem own_keep {S : Nat → Prop} {W W' : World} {base size n : Nat} {T : TypeId} {v : Value} {xs : List Value} (h : W.ownsRow base T size v n xs) (hk : Keep S W W') (h1 : ∀ k, base ≤ k → S k) : W'.ownsRow base T size v n xs := by
  refine ⟨h.1, ?_⟩
  rcases h.2 with hn | ⟨g, cap, cur, rfl, hbg, hgg, rest⟩
  · exact .inl hn
  · exact .inr ⟨g, cap, cur, rfl, hbg, (hk.block g (Array.getElem?_eq_some_iff.1 hgg).1 (h1 g hbg)).trans hgg, rest⟩
theorem own_below {W W' : World} {base size n : Nat} {T : TypeId} {v : Value} {xs : List Value} (h : W.ownsRow base T size v n xs) (hb : Below W.heap.size W W') : W'.ownsRow base T size v n xs :=
  own_keep (S := fun _ => True) h (Keep.of_below hb) (fun _ _ => trivial)
theorem OwnT.info {w : World} {base top g0 n cap : Nat} {M : List (List Int)} (h : OwnT w base top (.slice (some ⟨g0, 0, none⟩) n cap) M) (hn : M.length = n) : base ≤ g0 ∧ g0 < top ∧ g0 < w.heap.size ∧ n ≤ cap ∧ cap ≤ maxLen ∧ (∀ j, w.frozen? ⟨g0, j, none⟩ = false) ∧ ∃ c f, w.heap[g0]? = some (.cells c 31 f) := by
  subst hn
  obtain ⟨g, vs, ho, ht, hin, he⟩ := h
  rcases ho.2 with ⟨hc, h0⟩ | ⟨g1, cap1, cur, e, hbg, hgg, hnc, hcm, hsz, htk⟩
  · cases hc
  · cases e
    exact ⟨hbg, ht g0 rfl, (Array.getElem?_eq_some_iff.1 hgg).1, hnc, hcm, fun j => by simp [World.frozen?, hgg], cur, _, hgg⟩
theorem OwnT.rowsAt {w : World} {base top g0 n cap : Nat} {M : List (List Int)} (h : OwnT w base top (.slice (some ⟨g0, 0, none⟩) n cap) M) (hn : M.length = n) (hl : ∀ r ∈ M, r.length ≤ maxLen) : RowsAt w (some ⟨g0, 0, none⟩) M := by
  subst hn
  intro j hj
  obtain ⟨g0', cap', gi, c, e, hlt, _, _, hc, _, _, _, _, hr, _⟩ := h.at j hj
  cases e
  exact ⟨g0, 0, some ⟨gi, 0, none⟩, _, c, rfl, hlt, by rw [Nat.zero_add]; exact hc, rfl, hl _ (List.getElem_mem hj), hr.ints⟩
theorem OwnT.row {w : World} {base top g0 n cap : Nat} {M : List (List Int)} (h : OwnT w base top (.slice (some ⟨g0, 0, none⟩) n cap) M) (hn : M.length = n) (i : Nat) (hi : i < M.length) :
    ∃ gi c, w.cell? ⟨g0, i, none⟩ = some (.slice (some ⟨gi, 0, none⟩) M[i].length c) ∧ base ≤ gi ∧ gi < top ∧ g0 ≠ gi ∧ SpRow w gi M[i] ∧
      ∀ w' r', r'.length = M[i].length → SpRow w' gi r' → (∀ k, base ≤ k → k < top → k < w.heap.size → k ≠ gi → w'.heap[k]? = w.heap[k]?) → OwnT w' base top (.slice (some ⟨g0, 0, none⟩) n cap) (M.set i r') := by
  subst hn
  obtain ⟨g0', cap', gi, c, e, _, _, _, hc, _, h1, h2, h3, h4, _, _, h5⟩ := h.at i hi
  cases e
  exact ⟨gi, c, hc, h1, h2, h3, h4, h5⟩
theorem OwnT.ne {w : World} {base top g0 n cap : Nat} {M : List (List Int)} (h : OwnT w base top (.slice (some ⟨g0, 0, none⟩) n cap) M) (hn : M.length = n) {i j : Nat} (hi : i < M.length) (hj : j < M.length) (hne : i ≠ j) {gi gj ni nj ci cj : Nat}
    (h1 : w.cell? ⟨g0, i, none⟩ = some (.slice (some ⟨gi, 0, none⟩) ni ci)) (h2 : w.cell? ⟨g0, j, none⟩ = some (.slice (some ⟨gj, 0, none⟩) nj cj)) : gi ≠ gj := by
  subst hn
  obtain ⟨g, vs, ho, ht, hin, he⟩ := h
  have hcell : ∀ k, k < M.length → w.cell? ⟨g0, k, none⟩ = vs[k]? := fun k hk => by
    have := World.ownsRow.cellAt (w := w) (base := base) (e := 31) (size := 1) (g := g0) (n := M.length) (cap := cap) (xs := vs) ho k (by omega)
    exact this
  obtain ⟨⟨c, k1⟩, _⟩ := he i hi
  obtain ⟨⟨c', k2⟩, _⟩ := he j hj
  rw [hcell i hi, k1] at h1
  rw [hcell j hj, k2] at h2
  cases h1; cases h2
  exact fun e => hne (hin i j hi hj e)
theorem OwnT.rows {w : World} {base top : Nat} {v : Value} {M : List (List Int)} (h : OwnT w base top v M) (hl : ∀ r ∈ M, r.length ≤ maxLen) : ∃ a cap, v = .slice a M.length cap ∧ RowsAt w a M := by
  by_cases h0 : M = []
  · subst h0
    obtain ⟨g, vs, ho, _⟩ := h
    obtain ⟨a, cap, rfl⟩ := ownsRow_slice ho
    exact ⟨a, cap, rfl, fun j hj => by simp at hj⟩
  · have hp : 0 < M.length := List.length_pos_iff.2 h0
    obtain ⟨g0, cap, _, _, rfl, _⟩ := h.at 0 hp
    refine ⟨some ⟨g0, 0, none⟩, cap, rfl, fun j hj => ?_⟩
    obtain ⟨g0', cap', gi, c, e, hlt, _, _, hc, _, _, _, _, hr, _⟩ := h.at j hj
    cases e
    exact ⟨g0, 0, some ⟨gi, 0, none⟩, _, c, rfl, hlt, by rw [Nat.zero_add]; exact hc, rfl, hl _ (List.getElem_mem hj), hr.ints⟩
end Go.Proofs.Ytfipebkhomppmaa

namespace Go.Proofs.Ytfipebkhomppmaa
open Go.RowKit
set_option linter.unusedVariables false

def BndL (B : Nat) (l : List Int) : Prop := ∀ x ∈ l, -(B : Int) ≤ x ∧ x ≤ B
theorem BndL.get {B : Nat} {l : List Int} (h : BndL B l) {k : Nat} (hk : k < l.length) : -(B : Int) ≤ l[k]?.getD 0 ∧ l[k]?.getD 0 ≤ B := by
  rw [List.getElem?_eq_getElem hk]; exact h _ (List.getElem_mem hk)
theorem gcdL_le {B : Nat} {l : List Int} (h : BndL B l) : gcdL l ≤ B := by
  by_cases h0 : gcdL l = 0
  · omega
  · obtain ⟨x, hx, hx0⟩ : ∃ x ∈ l, x ≠ 0 := Classical.byContradiction fun hn => h0 (by
      have hz : ∀ x ∈ l, (0 : Int) ∣ x := fun x hx => by
        have : x = 0 := Classical.byContradiction fun c => hn ⟨x, hx, c⟩
        rw [this]; exact Int.dvd_refl _
      exact Int.zero_dvd.1 (dvd_gcdL hz))
    have h1 := gcdL_dvd hx
    have h2 := h x hx
    have h3 : gcdL l ∣ ((x.natAbs : Nat) : Int) := Int.dvd_natAbs.2 h1
    have := Int.le_of_dvd (by omega) h3
    omega
theorem gcdL_take {l : List Int} {k : Nat} (hk : k < l.length) : gcdL (l.take (k + 1)) = (Int.gcd (gcdL (l.take k)) (l[k]?.getD 0) : Nat) := by
  rw [List.take_succ_eq_append_getElem hk, List.getElem?_eq_getElem hk]
  unfold gcdL
  rw [List.foldl_append]; rfl
theorem BndL.take {B : Nat} {l : List Int} (h : BndL B l) (k : Nat) : BndL B (l.take k) := fun x hx => h x (List.mem_of_mem_take hx)

def halfF (f : Int → Int) (l : List Int) (k : Nat) : List Int := (l.take k).map f ++ l.drop k
theorem halfF_zero (f : Int → Int) (l : List Int) : halfF f l 0 = l := by simp [halfF]
theorem halfF_all (f : Int → Int) (l : List Int) : halfF f l l.length = l.map f := by simp [halfF]
theorem halfF_len (f : Int → Int) (l : List Int) (k : Nat) : (halfF f l k).length = l.length := by
  unfold halfF; simp; omega
theorem halfF_at (f : Int → Int) {l : List Int} {k : Nat} (hk : k < l.length) : (halfF f l k)[k]?.getD 0 = l[k]?.getD 0 := by
  unfold halfF
  rw [List.getElem?_append_right (by simp; omega)]
  simp only [List.length_map, List.length_take, List.getElem?_drop]
  congr 2; omega
theorem halfF_set (f : Int → Int) {l : List Int} {k : Nat} (hk : k < l.length) : (halfF f l k).set k (f (l[k]?.getD 0)) = halfF f l (k + 1) := by
  unfold halfF
  have hl : ((l.take k).map f).length = k := by simp; omega
  rw [List.set_append_right _ _ (by omega), hl, Nat.sub_self, List.drop_eq_getElem_cons hk, List.take_succ_eq_append_getElem hk, List.getElem?_eq_getElem hk, List.set_cons_zero, List.map_append]
  simp

theorem tdiv_bnd {x g B : Int} (hg : 1 ≤ g) (h : -B ≤ x ∧ x ≤ B) : -B ≤ x.tdiv g ∧ x.tdiv g ≤ B := by
  have h1 : (x.tdiv g).natAbs ≤ x.natAbs := by rw [Int.natAbs_tdiv]; exact Nat.div_le_self _ _
  omega

set_option maxHeartbeats 1000000 in
theorem shortened_c (w : World) (b n cap : Nat) (l : List Int) (hn : l.length = n) (hm : n ≤ maxLen) (H : SpRow w b l) (hB : BndL 4611686018427387904 l) :
    Calls Try.prog 116 #[.slice (some ⟨b, 0, none⟩) n cap] w fun e w' => e = .returned (.tuple #[]) ∧ SpRow w' b (shortF l) ∧ Keep (fun k => k ≠ b) w w' := by
  have HN := hid hn
  have HH := hid H
  have HBL := hid hB
  have HGT := hid (fun (k : Nat) (hk : k < l.length) => gcdL_take hk)
  have HG0 := hid (fun k => gcdL_nonneg (l.take k))
  have HGL := hid (fun k => gcdL_le (hB.take k))
  clear hn H hB
  unfold maxLen at hm
  go_enter Try.func116, Try.ntmps116
  go_wp2
  go_loopw [2, 8] (fun g i wr => ∃ k : Nat, k ≤ n ∧ i = .int .i64 k ∧ g = .int .i64 (gcdL (l.take k)) ∧ ∃ q, wr = w.drewN q) (fun _ i _ => n - (intOf i).toNat)
  case atStart => exact ⟨0, Nat.zero_le _, rfl, rfl, 0, rfl⟩
  case round =>
    obtain ⟨k, hk, rfl, rfl, q, rfl⟩ := hrel
    by_cases hlt : k < n
    · have hkl : k < l.length := by rw [HN.out]; exact hlt
      have hc := HH.out.cell hkl
      have hbd := HBL.out.get hkl
      have hg1 := HG0.out k
      have hg2 := HGL.out k
      have HE := hid (HGT.out k hkl)
      obtain ⟨x, hx⟩ : ∃ x, x = l[k]?.getD 0 := ⟨_, rfl⟩
      obtain ⟨g, hg⟩ : ∃ g, g = gcdL (l.take k) := ⟨_, rfl⟩
      rw [← hx] at hc hbd HE
      rw [← hg] at hg1 hg2 HE ⊢
      have HD := hid (divisor_c (w.drewN q) g x (by omega) (by omega))
      clear hx hg hbd hg1 hg2 hkl
      go_wp2_with (go_at_call 76; refine HD.out.mono ?_; rintro e w1 ⟨rfl, q1, rfl⟩)
      exact ⟨⟨k + 1, by omega, by go_num, by rw [HE.out], q + q1, rfl⟩, by simp [intOf]; omega⟩
    · obtain rfl : k = n := by omega
      have e : l.take k = l := List.take_of_length_le (by rw [HN.out]; exact Nat.le_refl _)
      rw [e]
      have hg1 := gcdL_nonneg l
      have hg2 := gcdL_le HBL.out
      obtain ⟨g, hg⟩ : ∃ g, g = gcdL l := ⟨_, rfl⟩
      rw [← hg] at hg1 hg2 ⊢
      have HR := hid (show SpRow (w.drewN q) b l from HH.out)
      have HK0 := hid (show Keep (fun k => k ≠ b) w (w.drewN q) from (Keep.refl _ _).drewN q)
      have HGE := hid hg
      clear e hg HG0 HGL HGT
      generalize w.drewN q = w1 at HR HK0 ⊢
      by_cases h1 : 1 < g
      · go_wp2
        go_loopw [18] (fun i wr => ∃ t : Nat, t ≤ k ∧ i = .int .i64 t ∧ SpRow wr b (halfF (fun x => x.tdiv g) l t) ∧ Keep (fun k => k ≠ b) w1 wr) (fun i _ => k - (intOf i).toNat)
        case atStart => exact ⟨0, Nat.zero_le _, rfl, by rw [halfF_zero]; exact HR.out, Keep.refl _ _⟩
        case round =>
          obtain ⟨t, ht, rfl, hr, hkp⟩ := hrel
          by_cases hlt2 : t < k
          · have htl : t < l.length := by rw [HN.out]; exact hlt2
            have hc := hr.cell (j := t) (by rw [halfF_len]; exact htl)
            rw [halfF_at _ htl] at hc
            have hz := hr.frozen t
            have hbd := HBL.out.get htl
            have hst := halfF_set (fun x => x.tdiv g) htl
            have HSET := hid (fun v => hr.set t (by rw [halfF_len]; exact htl) v)
            have hlt3 := hr.lt
            obtain ⟨x, hx⟩ : ∃ x, x = l[t]?.getD 0 := ⟨_, rfl⟩
            rw [← hx] at hc hbd hst
            have htd := tdiv_bnd (show 1 ≤ g by omega) hbd
            have HST := hid hst
            have HW := hid (show IntKind.i64.wrap (x.tdiv g) = x.tdiv g from IntWalk.i64_in _ (by omega))
            have HKP := hid hkp
            clear hx hst hr hkp htl
            go_wp2
            exact ⟨⟨t + 1, by omega, by go_num, by rw [← HST.out]; exact HSET.out _, HKP.out.trans (Keep.set wr b t _)⟩, by simp [intOf]; omega⟩
          · obtain rfl : t = k := by omega
            go_wp2
            go_end0
            refine ⟨rfl, ?_, HK0.out.trans hkp⟩
            rw [← HN.out, halfF_all] at hr
            unfold shortF
            rw [← HGE.out, if_pos h1]; exact hr
      · go_wp2
        go_loopw [18] (fun i wr => ∃ t : Nat, t ≤ k ∧ i = .int .i64 t ∧ SpRow wr b l ∧ Keep (fun k => k ≠ b) w1 wr) (fun i _ => k - (intOf i).toNat)
        case atStart => exact ⟨0, Nat.zero_le _, rfl, HR.out, Keep.refl _ _⟩
        case round =>
          obtain ⟨t, ht, rfl, hr, hkp⟩ := hrel
          by_cases hlt2 : t < k
          · go_wp2
            exact ⟨⟨t + 1, by omega, by go_num, hr, hkp⟩, by simp [intOf]; omega⟩
          · obtain rfl : t = k := by omega
            go_wp2
            go_end0
            refine ⟨rfl, ?_, HK0.out.trans hkp⟩
            unfold shortF
            rw [← HGE.out, if_neg (by omega)]; exact hr

def mixF (f : Int → Int → Int) (l m : List Int) (k : Nat) : List Int := (List.zipWith f l m).take k ++ l.drop k
theorem mixF_zero (f : Int → Int → Int) (l m : List Int) : mixF f l m 0 = l := by simp [mixF]
theorem mixF_len (f : Int → Int → Int) {l m : List Int} (h : l.length = m.length) (k : Nat) : (mixF f l m k).length = l.length := by
  unfold mixF; simp; omega
theorem mixF_all (f : Int → Int → Int) {l m : List Int} (h : l.length = m.length) : mixF f l m l.length = List.zipWith f l m := by
  unfold mixF
  rw [List.take_of_length_le (by simp; omega)]; simp
theorem mixF_at (f : Int → Int → Int) {l m : List Int} (h : l.length = m.length) {k : Nat} (hk : k < l.length) : (mixF f l m k)[k]?.getD 0 = l[k]?.getD 0 := by
  unfold mixF
  rw [List.getElem?_append_right (by simp; omega)]
  simp only [List.length_take, List.length_zipWith, List.getElem?_drop]
  congr 2; omega
theorem mixF_set (f : Int → Int → Int) {l m : List Int} (h : l.length = m.length) {k : Nat} (hk : k < l.length) : (mixF f l m k).set k (f (l[k]?.getD 0) (m[k]?.getD 0)) = mixF f l m (k + 1) := by
  unfold mixF
  have hl : ((List.zipWith f l m).take k).length = k := by simp; omega
  rw [List.set_append_right _ _ (by omega), hl, Nat.sub_self, List.drop_eq_getElem_cons hk, List.take_succ_eq_append_getElem (by simp; omega), List.getElem?_eq_getElem hk, List.getElem?_eq_getElem (by omega), List.set_cons_zero, List.getElem_zipWith]
  simp

theorem mul_bnd {a b A B : Int} (h1 : -A ≤ a ∧ a ≤ A) (h2 : -B ≤ b ∧ b ≤ B) : -(A * B) ≤ a * b ∧ a * b ≤ A * B := abs_mul_le h1 h2

set_option maxRecDepth 100000 in
set_option maxHeartbeats 1000000 in
theorem cleared_c (w : World) (b n cap b2 cap2 : Nat) (l m : List Int) (hn : l.length = n) (hn2 : m.length = n) (hm : n ≤ maxLen) (H : SpRow w b l) (H2 : SpRow w b2 m) (hne : b ≠ b2) (hB : BndL 1073741824 l) (hB2 : BndL 1073741824 m) (j : Nat) (hj : j < n) (h0 : vec m j ≠ 0) :
    Calls Try.prog 131 #[.slice (some ⟨b, 0, none⟩) n cap, .slice (some ⟨b2, 0, none⟩) n cap2, .int .i64 j] w fun e w' => e = .returned (.tuple #[]) ∧ SpRow w' b (clearF l m j) ∧ Keep (fun k => k ≠ b) w w' := by
  have hlm : l.length = m.length := by omega
  have c1 := H.cell (j := j) (by omega)
  have c2 := H2.cell (j := j) (by omega)
  have hb1 := hB.get (k := j) (by omega)
  have hb2 := hB2.get (k := j) (by omega)
  obtain ⟨x, hx⟩ : ∃ x, x = l[j]?.getD 0 := ⟨_, rfl⟩
  obtain ⟨y, hy⟩ : ∃ y, y = m[j]?.getD 0 := ⟨_, rfl⟩
  have hy0 : y ≠ 0 := by rw [hy]; exact h0
  rw [← hx] at c1 hb1
  rw [← hy] at c2 hb2
  have HX := hid (show vec l j = x from hx.symm)
  have HY := hid (show vec m j = y from hy.symm)
  have HD := hid (fun (W : World) => divisor_c W x y (by omega) (by omega))
  obtain ⟨g, hg⟩ : ∃ g : Int, g = (Int.gcd x y : Nat) := ⟨_, rfl⟩
  have hg0 : 0 < g := by
    rw [hg]
    have : 0 < Int.gcd x y := Int.gcd_pos_of_ne_zero_right _ hy0
    omega
  rw [← hg] at HD
  have HG := hid hg
  have HLM := hid hlm
  have HN := hid hn
  have HH := hid H
  have HH2 := hid H2
  have HBL := hid hB
  have HBL2 := hid hB2
  have HNE := hid hne
  have hj1 : (0 : Int) ≤ (j : Int) := by omega
  have hj2 : (j : Int) < (n : Int) := by omega
  clear hx hy hg hn hn2 H H2 hB hB2 h0 hy0 hlm hne
  unfold maxLen at hm
  go_enter Try.func131, Try.ntmps131
  go_wp2
  go_quiet (fail)
  go_wp2_with (go_at_call 76; refine (HD.out _).mono ?_; rintro e w1 ⟨rfl, q1, rfl⟩)
  have HR := hid (show SpRow (w.drewN (nq + q1)) b l from HH.out)
  have HR2 := hid (show SpRow (w.drewN (nq + q1)) b2 m from HH2.out)
  have HK0 := hid (show Keep (fun k => k ≠ b) w (w.drewN (nq + q1)) from (Keep.refl _ _).drewN _)
  generalize w.drewN (nq + q1) = w1 at HR HR2 HK0 ⊢
  clear HH HH2 HD c1 c2 hj1 hj2
  have ht1 := tdiv_bnd (show 1 ≤ g by omega) hb1
  have ht2 := tdiv_bnd (show 1 ≤ g by omega) hb2
  obtain ⟨F, hF⟩ : ∃ F : Int → Int → Int, F = fun u v => u * y.tdiv g - v * x.tdiv g := ⟨_, rfl⟩
  have HF := hid hF
  have wx : IntKind.i64.wrap (x.tdiv g) = x.tdiv g := IntWalk.i64_in _ (by omega)
  have wy : IntKind.i64.wrap (y.tdiv g) = y.tdiv g := IntWalk.i64_in _ (by omega)
  have HB1 := hid ht1
  have HB2 := hid ht2
  clear hF ht1 ht2 hb1 hb2
  go_wp2
  go_loopw [23] (fun i wr => ∃ t : Nat, t ≤ n ∧ i = .int .i64 t ∧ SpRow wr b (mixF F l m t) ∧ Keep (fun k => k ≠ b) w1 wr) (fun i _ => n - (intOf i).toNat)
  case atStart => exact ⟨0, Nat.zero_le _, rfl, by rw [mixF_zero]; exact HR.out, Keep.refl _ _⟩
  case round =>
    obtain ⟨t, ht, rfl, hr, hkp⟩ := hrel
    by_cases hlt : t < n
    · have htl : t < l.length := by rw [HN.out]; exact hlt
      have htm : t < m.length := by rw [← HLM.out]; exact htl
      have c1 := hr.cell (j := t) (by rw [mixF_len _ HLM.out]; exact htl)
      rw [mixF_at _ HLM.out htl] at c1
      have hr2 : SpRow wr b2 m := HR2.out.keep (hkp.block b2 HR2.out.lt (Ne.symm HNE.out))
      have c2 := hr2.cell htm
      have hz := hr.frozen t
      have hb1 := HBL.out.get htl
      have hb2 := HBL2.out.get htm
      have hst := mixF_set F HLM.out htl
      have HSET := hid (fun (W : World) (hW : W.heap[b]? = wr.heap[b]?) v => (hr.keep hW).set t (by rw [mixF_len _ HLM.out]; exact htl) v)
      have hlt3 := hr.lt
      obtain ⟨u, hu⟩ : ∃ x, x = l[t]?.getD 0 := ⟨_, rfl⟩
      obtain ⟨v, hv⟩ : ∃ x, x = m[t]?.getD 0 := ⟨_, rfl⟩
      rw [← hu] at c1 hb1 hst
      rw [← hv] at c2 hb2 hst
      have p1 := mul_bnd hb1 HB2.out
      have p2 := mul_bnd hb2 HB1.out
      have w1' : IntKind.i64.wrap (u * y.tdiv g) = u * y.tdiv g := IntWalk.i64_in _ (by omega)
      have w2' : IntKind.i64.wrap (v * x.tdiv g) = v * x.tdiv g := IntWalk.i64_in _ (by omega)
      have w3' : IntKind.i64.wrap (u * y.tdiv g - v * x.tdiv g) = u * y.tdiv g - v * x.tdiv g := IntWalk.i64_in _ (by omega)
      have HST := hid (show (mixF F l m t).set t (u * y.tdiv g - v * x.tdiv g) = mixF F l m (t + 1) by rw [← hst, HF.out])
      have HKP := hid hkp
      have ht1 : (0 : Int) ≤ (t : Int) := by omega
      have ht2 : (t : Int) < (n : Int) := by omega
      clear hu hv hst hr hr2 hkp htl htm hb1 hb2 p1 p2
      go_wp2
      have hgz : ¬ (g = 0) := by omega
      go_still_tail 20, (by kernel_rfl)
      change wpList _ _ _ _ _ wr.drew
      go_wp2
      refine ⟨⟨t + 1, by omega, by go_num, ?_, (HKP.out.drewN 1).trans (Keep.set wr.drew b t _)⟩, by simp [intOf]; omega⟩
      rw [← HST.out]
      exact HSET.out wr.drew rfl _
    · obtain rfl : t = n := by omega
      rw [← HN.out, mixF_all _ HLM.out] at hr
      have hzl : (List.zipWith F l m).length = t := by simp; have := HLM.out; have := HN.out; omega
      have hbz : BndL 4611686018427387904 (List.zipWith F l m) := by
        intro z hz
        obtain ⟨i, hi, rfl⟩ := List.mem_iff_getElem.1 hz
        have hil : i < l.length := by have := HN.out; omega
        have him : i < m.length := by have := HLM.out; omega
        have hb1 := HBL.out _ (List.getElem_mem hil)
        have hb2 := HBL2.out _ (List.getElem_mem him)
        have hFe : F l[i] m[i] = l[i] * y.tdiv g - m[i] * x.tdiv g := by have := HF.out; rw [this]
        have p1 := mul_bnd hb1 HB2.out
        have p2 := mul_bnd hb2 HB1.out
        rw [List.getElem_zipWith, hFe]
        omega
      have HS := hid (shortened_c wr b t cap (List.zipWith F l m) hzl (by unfold maxLen; omega) hr hbz)
      have HKP := hid hkp
      clear hr hzl hbz hkp
      go_wp2_with (go_at_call 116; refine HS.out.mono ?_; rintro e w3 ⟨rfl, hs3, hk3⟩)
      go_end0
      refine ⟨rfl, ?_, (HK0.out.trans HKP.out).trans hk3⟩
      have e : clearF l m j = shortF (List.zipWith F l m) := by
        unfold clearF
        simp only []
        rw [HX.out, HY.out, ← HG.out, ← HF.out]
      rw [e]; exact hs3
end Go.Proofs.Ytfipebkhomppmaa

namespace Go.Proofs.Ytfipebkhomppmaa
open Go.RowKit
set_option linter.unusedVariables false

def wAll (_ : Nat) : Bool := true

theorem AnyT.takeD {P : Program} {md : Region.Mode} {ops : Array Oper} {Q : Exit → Act → World → Prop} {S : World → Prop} {i d : Nat} {oi : Oper} {v : Value} {fuel : Nat} {listed : Array Bool} {a : Act} {w : World} {Wf : Nat → Bool} (hi : ops[i]? = some oi) (hd : oi.dst = some d)
    (hs : Region.noSelect ops = true) (hf : Region.free md ops listed i = true) (hr : (Region.ready md ops listed).contains i = true)
    (hQ : ∀ c a w, Q (.panic c) (a.put (some d) v) w → Q (.panic c) a w)
    (hW : (List.range ops.size).all (fun j => waits md ops i j || Wf j) = true) (hw : Region.wanted oi (yielded ops a.tmps) = true) (hy : ∀ w, S w → (execOp a.eval oi).run P w = .ok (.value v) w) (hS : S w)
    (h : AnyT P md ops Q (fun j w => Wf j = true → S w) fuel (listed.setIfInBounds i true) (a.put (some d) v) w) : AnyT P md ops Q (fun j w => Wf j = true → S w) (fuel + 1) listed a w :=
  AnyT.takeW hi hs hf hr (by rw [hd]; exact hQ) hW hw hy hS (by rw [hd]; exact h)
end Go.Proofs.Ytfipebkhomppmaa

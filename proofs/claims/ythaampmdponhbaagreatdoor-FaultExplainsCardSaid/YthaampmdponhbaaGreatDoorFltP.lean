/- Slices of faults that a call makes and appends to, and the walk of fault.all. -/
import Derived.Test.YthaampmdponhbaaGreatDoorFltO
import Derived.Test.YthaampmdponhbaaGreatDoorHeld
import Derived.WalkSpells
import Derived.Maps.AppendAt
namespace Go.Proofs.YthaampmdponhbaaGreatDoor
open Go.RowKit Go.Maps
set_option linter.unusedVariables false
attribute [local go_sem] Oper.semAt_some

/-- the values of faults in a row -/
def fltCells (f : Flt) : List Value := [.int .i64 f.kind, .int .i64 f.row, .int .i64 f.pixel]
def fltVals (l : List Flt) : List Value := l.flatMap fltCells
theorem fltVals_snoc (l : List Flt) (f : Flt) : fltVals (l ++ [f]) = fltVals l ++ fltCells f := by simp [fltVals]
theorem fltVals_length (l : List Flt) : (fltVals l).length = l.length * 3 := by
  induction l with
  | nil => rfl
  | cons f l ih => show (fltCells f ++ fltVals l).length = _; rw [List.length_append, ih]; simp [fltCells]; omega
theorem fltVals_at (l : List Flt) : ∀ (j i : Nat) (hj : j < l.length), i < 3 → (fltVals l)[j * 3 + i]? = (fltCells l[j])[i]? := by
  induction l with
  | nil => intro j i hj; simp at hj
  | cons f l ih =>
    intro j i hj hi
    show (fltCells f ++ fltVals l)[j * 3 + i]? = _
    cases j with
    | zero => rw [List.getElem?_append_left (by simp [fltCells]; omega)]; simp
    | succ j =>
      rw [List.getElem?_append_right (by simp [fltCells]; omega)]
      have := ih j i (by simpa using hj) hi
      rw [show (j + 1) * 3 + i - (fltCells f).length = j * 3 + i by simp [fltCells]; omega, this]
      simp

/-- the cells of a slice of faults -/
def FltsAt (w : World) (a : Option Addr) (l : List Flt) : Prop :=
  ∀ j (hj : j < l.length), ∃ b off, a = some ⟨b, off, none⟩ ∧ b < w.heap.size ∧ w.cell? ⟨b, off + j * 3, none⟩ = some (.int .i64 l[j].kind) ∧ w.cell? ⟨b, off + j * 3 + 1, none⟩ = some (.int .i64 l[j].row) ∧ w.cell? ⟨b, off + j * 3 + 2, none⟩ = some (.int .i64 l[j].pixel)
theorem FltsAt.below {w w' : World} {a : Option Addr} {l : List Flt} (h : FltsAt w a l) (hb : Below w.heap.size w w') : FltsAt w' a l := by
  intro j hj
  obtain ⟨b, off, e, hlt, h0, h1, h2⟩ := h j hj
  exact ⟨b, off, e, Nat.lt_of_lt_of_le hlt hb.size, (hb.cell (p := ⟨b, _, none⟩) hlt).trans h0, (hb.cell (p := ⟨b, _, none⟩) hlt).trans h1, (hb.cell (p := ⟨b, _, none⟩) hlt).trans h2⟩

/-- a slice of faults that the call has made since base -/
def FltsO (W : World) (base : Nat) (v : Value) (l : List Flt) : Prop := W.ownsRow base 25 3 v l.length (fltVals l)
theorem FltsO.nil (W : World) (base : Nat) : FltsO W base (.slice none 0 0) [] := World.ownsRow_nil _ _ _ _
theorem FltsO.keep {S : Nat → Prop} {W W' : World} {base : Nat} {v : Value} {l : List Flt} (h : FltsO W base v l) (hk : Keep S W W') (h1 : ∀ k, base ≤ k → S k) : FltsO W' base v l := by
  refine ⟨h.1, ?_⟩
  rcases h.2 with hn | ⟨g, cap, cur, rfl, hbg, hgg, rest⟩
  · exact .inl hn
  · exact .inr ⟨g, cap, cur, rfl, hbg, (hk.block g (Array.getElem?_eq_some_iff.1 hgg).1 (h1 g hbg)).trans hgg, rest⟩
theorem FltsO.below {W W' : World} {base : Nat} {v : Value} {l : List Flt} (h : FltsO W base v l) (hb : Below W.heap.size W W') : FltsO W' base v l :=
  h.keep (S := fun _ => True) (Keep.of_below hb) (fun _ _ => trivial)
theorem FltsO.reads {W : World} {base : Nat} {v : Value} {l : List Flt} (h : FltsO W base v l) : ∃ a cap, v = .slice a l.length cap ∧ l.length ≤ maxLen ∧ FltsAt W a l := by
  rcases h.2 with ⟨rfl, h0⟩ | ⟨g, cap, cur, rfl, hbg, hgg, hnc, hcm, hsz, htk⟩
  · exact ⟨none, 0, by rw [h0], by rw [h0]; decide, fun j hj => by omega⟩
  · refine ⟨_, cap, rfl, by omega, fun j hj => ⟨g, 0, rfl, (Array.getElem?_eq_some_iff.1 hgg).1, ?_⟩⟩
    have hc : ∀ i, i < l.length * 3 → W.cell? ⟨g, i, none⟩ = (fltVals l)[i]? := fun i hi =>
      World.ownsRow.cellAt (w := W) (base := base) (e := 25) (size := 3) (g := g) (n := l.length) (cap := cap) (xs := fltVals l) ⟨h.1, .inr ⟨g, cap, cur, rfl, hbg, hgg, hnc, hcm, hsz, htk⟩⟩ i hi
    refine ⟨?_, ?_, ?_⟩
    · rw [Nat.zero_add, hc _ (by omega)]; exact fltVals_at l j 0 hj (by omega)
    · rw [Nat.zero_add, hc _ (by omega)]; exact fltVals_at l j 1 hj (by omega)
    · rw [Nat.zero_add, hc _ (by omega)]; exact fltVals_at l j 2 hj (by omega)

theorem info_fault : (Tryz.prog.info? 25).map (fun i => (i.zero, i.size, i.bytes)) = some (some (.agg #[.int .i64 0, .int .i64 0, .int .i64 0]), 3, 24) := by kernel_rfl

theorem each_c (a : Option Addr) (n cap : Nat) (w : World) : Calls Tryz.prog 98 #[.slice a n cap] w
    fun e w' => e = .returned (.func (.func 126) #[] #[.pointer (some ⟨w.heap.size, 0, none⟩)]) ∧ w' = w.alloc (.cells #[.slice a n cap] 23) := by
  have hmf : ∀ (fn : Fn) (first cap : Array Value) (w : World), (Instr.makeFunc fn first cap).run Tryz.prog w = .ok (.func fn first cap) w := fun _ _ _ _ => rfl
  go_enter Tryz.func98, Tryz.ntmps98
  go_wp2
  go_ret
  exact ⟨rfl, rfl⟩

theorem cell_blocks {W W' : World} {b o : Nat} {v : Value} (h : W.cell? ⟨b, o, none⟩ = some v) (hk : W'.heap[b]? = W.heap[b]?) : W'.cell? ⟨b, o, none⟩ = some v :=
  (World.cell?_of_block (a := ⟨b, o, none⟩) hk).trans h
theorem lt_blocks {W W' : World} {b : Nat} (h : b < W.heap.size) (hk : W'.heap[b]? = W.heap[b]?) : b < W'.heap.size := by
  rcases Nat.lt_or_ge b W'.heap.size with h' | h'
  · exact h'
  · rw [Array.getElem?_eq_none h', Array.getElem?_eq_getElem h] at hk; cases hk
theorem IntsAt.blocks {W W' : World} {a : Option Addr} {l : List Int} (h : IntsAt W a l) (hk : ∀ k, k < W.heap.size → W'.heap[k]? = W.heap[k]?) : IntsAt W' a l := by
  intro j hj
  obtain ⟨b, off, e, hb, hc⟩ := h j hj
  exact ⟨b, off, e, lt_blocks hb (hk b hb), cell_blocks hc (hk b hb)⟩
theorem RowsAt.blocks {W W' : World} {a : Option Addr} {l : List (List Int)} (h : RowsAt W a l) (hk : ∀ k, k < W.heap.size → W'.heap[k]? = W.heap[k]?) : RowsAt W' a l := by
  intro j hj
  obtain ⟨b, off, ra, n, cap, e, hb, hc, h1, h2, h3⟩ := h j hj
  exact ⟨b, off, ra, n, cap, e, lt_blocks hb (hk b hb), cell_blocks hc (hk b hb), h1, h2, h3.blocks hk⟩

theorem boxed_below {W W' : World} {b : Nat} {T : TypeId} {v : Value} (h : Boxed W b T v) (hb : Below W.heap.size W W') : Boxed W' b T v := (hb.block b h.lt).trans h

/-- what the map of met texts reads as, behind some faults -/
def metB (M : Mask) (xs : List Flt) (s : List UInt8) : Bool := xs.any (fun f => decide (textM (faultyM M f) = s))

/-- is a fault one with an earlier one? -/
theorem met_iff {M : Mask} (hM : okM M = true) {xs : List Flt} (hx : ∀ f ∈ xs, okF M f = true) {f : Flt} (hf : okF M f = true) :
    metB M xs (textM (faultyM M f)) = (allTo M xs).any (fun g => decide (faultyM M g = faultyM M f)) := by
  rw [Bool.eq_iff_iff]
  unfold metB
  simp only [List.any_eq_true, decide_eq_true_eq]
  constructor
  · rintro ⟨g, hg, e⟩
    obtain ⟨k, hk, e2⟩ := allTo_has (M := M) hg
    exact ⟨k, hk, e2.trans (textM_inj (okM_faulty hM (hx g hg)).1 (okM_faulty hM hf).1 e)⟩
  · rintro ⟨g, hg, e⟩
    exact ⟨g, allTo_mem hg, by rw [e]⟩

theorem textM_len {M : Mask} (h : okM M = true) : (textM M).length ≤ 66 := by
  obtain ⟨_, m6, _, c10, hrows⟩ := okM_len h
  unfold textM
  rw [if_pos h]
  have := fmtM_length M 10 (fun r hr => by rw [(hrows r hr).1]; exact c10)
  calc (fmtM M).length ≤ M.length * (10 + 1) := this
    _ ≤ 6 * 11 := Nat.mul_le_mul m6 (Nat.le_refl _)

/-- the frame behind the assignment of a round of all -/
def AxAll (L : Nat) (tm : Value → Value → Array Value) (x : Value) (a' : Act) (W : World) : Prop :=
  ∃ (f : Flt) (q : Nat), x = f.val ∧ a' = { tmps := tm (.pointer (some ⟨q, 0, none⟩)) f.val, defers := [] } ∧ L + 2 ≤ q ∧ W.heap[q]? = some (.cells (fltCells f).toArray 25 (0, 0))
theorem Flt.val_inj {f g : Flt} (h : f.val = g.val) : f = g := by
  obtain ⟨a, b, c⟩ := f
  obtain ⟨a', b', c'⟩ := g
  simp only [Flt.val] at h
  simp at h
  obtain ⟨rfl, rfl, rfl⟩ := h
  rfl
theorem pre_at {L : List Flt} {pre : List Value} {x : Value} (h : pre ++ [x] <+: L.map Flt.val) : ∃ hk : pre.length < L.length, x = Flt.val L[pre.length] := by
  obtain ⟨t, ht⟩ := h
  have h1 := congrArg List.length ht
  simp at h1
  have hlt : pre.length < L.length := by omega
  refine ⟨hlt, ?_⟩
  have h2 := congrArg (fun l => l[pre.length]?) ht
  simp only [List.append_assoc] at h2
  rw [List.getElem?_append_right (Nat.le_refl _), List.getElem?_map, List.getElem?_eq_getElem hlt] at h2
  simpa using h2
theorem flt_cells {W : World} {q : Nat} {f : Flt} {T : TypeId} (h : W.heap[q]? = some (.cells (fltCells f).toArray T (0, 0))) : W.cell? ⟨q, 0, none⟩ = some (.int .i64 f.kind) ∧ W.cell? ⟨q, 1, none⟩ = some (.int .i64 f.row) ∧ W.cell? ⟨q, 2, none⟩ = some (.int .i64 f.pixel) := by
  refine ⟨?_, ?_, ?_⟩ <;> simp [World.cell?, h, fltCells]
theorem alloc_cells (w : World) (cs : Array Value) (T : TypeId) : (w.alloc (.cells cs T)).heap[w.heap.size]? = some (.cells cs T (0, 0)) := World.alloc_heap_new w _
theorem flt_news (w : World) (f : Flt) (T : TypeId) : ∀ j u, (fltCells f)[j]? = some u → (w.alloc (.cells (fltCells f).toArray T)).cell? ((⟨w.heap.size, 0, none⟩ : Addr).add j) = some u := by
  intro j u hu
  rw [Addr.add_lit, World.cell?_alloc_at _ _ _ _ rfl]
  simpa using hu
theorem flt_one (f : Flt) : ∀ u ∈ fltCells f, u.oneCell' = true := by
  intro u hu
  simp only [fltCells, List.mem_cons, List.not_mem_nil, or_false] at hu
  rcases hu with rfl | rfl | rfl <;> rfl
theorem map_keep {P : Program} {k : TypeId} {R : Value → Option (DataW Unit × List MemPlace)} {S : Nat → Prop} {W W' : World} {b n : Nat} {D : DataW Unit} (h : W.ownsMap P k R b n D) (hk : Keep S W W') (hS : S b) : W'.ownsMap P k R b n D := by
  obtain ⟨es, clock, hb, F, q1, q2⟩ := h
  exact ⟨es, clock, (hk.block _ (Array.getElem?_eq_some_iff.1 hb).1 hS).trans hb, F, q1, q2⟩

set_option maxRecDepth 100000 in
set_option maxHeartbeats 4000000 in
theorem all_c (w : World) (a : Option Addr) (n cap : Nat) (M : Mask) (hn : M.length = n) (H : RowsAt w a M) (hM : okM M = true) :
    Calls Tryz.prog 63 #[.slice a n cap] w fun e w' => ∃ v base, e = .returned v ∧ w.heap.size ≤ base ∧ FltsO w' base v (allF M) ∧ Below w.heap.size w w' := by
  have HN := hid hn
  have HH := hid H
  have HM := hid hM
  have hmm := @run_makeMap Tryz.prog
  obtain ⟨i0, hi, hz0, hz1, hz2⟩ := info_parts info_fault
  clear hn H hM
  refine callsIn_wide (n := 0) |>.1 ?_
  refine callsIn_of_wp_marks Tryz.func63 rfl trivial ?_ rfl
  simp only [Tryz.ntmps63, List.size_toArray, List.length_cons, List.length_nil, Nat.reduceAdd, Nat.reduceSub, Array.replicate_succ, Array.replicate_zero, List.push_toArray, List.append_toArray, List.nil_append, List.cons_append]
  gi_wp2_with (refine ⟨trivial, rfl, ?_⟩; gi_at_call 98; refine (callsIn_wide.2 (each_c _ _ _ _)).mono ?_; rintro e w' ⟨rfl, rfl⟩)
  obtain ⟨s, hs⟩ : ∃ s, s = w.heap.size := ⟨_, rfl⟩
  rw [← hs]
  obtain ⟨w3, hw3⟩ : ∃ w3, w3 = ((w.alloc (.cells #[.slice a n cap] 23)).alloc (.cells #[.slice none 0 0] 36)).alloc (.map #[] 0) := ⟨_, rfl⟩
  have hz3 : w3.heap.size = s + 3 := by rw [hw3, hs]; simp
  have hmade : w3.ownsMap Tryz.prog 9 (plainElem (H := Unit) Tryz.prog 4) (s + 2) 0 (.map []) := by
    have := World.ownsMap_made (H := Unit) ((w.alloc (.cells #[.slice a n cap] 23)).alloc (.cells #[.slice none 0 0] 36)) Tryz.prog 9 (plainElem Tryz.prog 4)
    rw [hw3, hs]
    simpa using this
  have hB0 : Boxed w3 s 23 (.slice a n cap) := by
    rw [hw3, hs]; exact ((Boxed.new w 23 (.slice a n cap)).alloc _).alloc _
  have hB1 : Boxed w3 (s + 1) 36 (.slice none 0 0) := by
    have := Boxed.new (w.alloc (.cells #[.slice a n cap] 23)) 36 (.slice none 0 0)
    rw [World.size_alloc, ← hs] at this
    rw [hw3]; exact this.alloc _
  have hb3 : Below s w w3 := by rw [hw3, hs]; exact (((Below.refl _ w).alloc (Nat.le_refl _) _).alloc (by simp) _).alloc (by simp; omega) _
  rw [← hw3]
  obtain ⟨wL, hwL⟩ : ∃ wL, wL = (w3.alloc (.cells #[.map (some (s + 2))] 114)).alloc (.cells #[.slice a n cap] 23) := ⟨_, rfl⟩
  have hzL : wL.heap.size = s + 5 := by rw [hwL]; simp [hz3]
  have hb3L : Below w3.heap.size w3 wL := by rw [hwL]; exact ((Below.refl _ w3).alloc (Nat.le_refl _) _).alloc (by simp) _
  have hbL : Below s w wL := hb3.trans (hb3L.mono (by omega))
  have hL0 : Boxed wL s 23 (.slice a n cap) := boxed_below hB0 hb3L
  have hL1 : Boxed wL (s + 1) 36 (.slice none 0 0) := boxed_below hB1 hb3L
  have hL2 : wL.ownsMap Tryz.prog 9 (plainElem (H := Unit) Tryz.prog 4) (s + 2) 0 (.map []) := by rw [hwL]; exact (hmade.alloc _).alloc _
  have hL3 : Boxed wL (s + 3) 114 (.map (some (s + 2))) := by
    have := Boxed.new w3 114 (.map (some (s + 2)))
    rw [hz3] at this
    rw [hwL]; exact this.alloc _
  have hL4 : Boxed wL (s + 4) 23 (.slice a n cap) := by
    have := Boxed.new (w3.alloc (.cells #[.map (some (s + 2))] 114)) 23 (.slice a n cap)
    rw [World.size_alloc, hz3] at this
    rw [hwL]; exact this
  have hHL : RowsAt wL a M := HH.out.below (by rw [← hs]; exact hbL)
  rw [show s + 1 + 1 + 1 + 1 = s + 4 from rfl, show s + 1 + 1 + 1 = s + 3 from rfl, show s + 1 + 1 = s + 2 from rfl]
  rw [← hwL]
  have hHS := HH.out
  have hall := every_240 HM.out
  have HS := hid hs
  have HHL := hid hHL
  clear hwL hw3 hs hmm hHS hHL
  refine range_vals (gf := 126) (lb := #[.pointer (some ⟨s + 4, 0, none⟩)]) (xs := (everyF M).map Flt.val) (fp := fun k => k < s ∨ k = s + 4) (w0 := wL) rfl (enters_of Tryz.func126 (by kernel_rfl) rfl)
    (iter_faults wL (s + 4) a n cap M HN.out HHL.out HM.out (by omega) hL4.cell s (by omega) (Below.refl _ _) ?hold) (Below.refl _ _) (by intro k hk; omega)
    (fun pre W => ∃ v D, Boxed W (s + 1) 36 v ∧ Boxed W (s + 3) 114 (.map (some (s + 2))) ∧ Boxed W s 23 (.slice a n cap) ∧ Below s w W ∧ FltsO W (s + 7) v (allTo M ((everyF M).take pre.length)) ∧ MapSB D (metB M ((everyF M).take pre.length)) ∧ W.ownsMap Tryz.prog 9 (plainElem (H := Unit) Tryz.prog 4) (s + 2) pre.length D)
    (fun _ _ _ => False) ?hI (fun _ _ _ _ h _ => h) ?h0
    (AxAll (s + 5) (fun p x => #[.slice a n cap, .pointer (some ⟨s, 0, none⟩), .slice none 0 0, .pointer (some ⟨s + 1, 0, none⟩), .pointer (some ⟨s + 3, 0, none⟩), p, undef, .map (some (s + 2)), .slice a n cap, .func (.func 126) #[] #[.pointer (some ⟨s + 4, 0, none⟩)], x, undef, undef, undef, undef, undef, undef, undef, undef, undef, undef, undef, undef, undef, undef, undef])) ?hAx ?assign ?body ?done ?stop
  case hold =>
    intro W hk
    exact HH.out.blocks fun k hlt => by rw [← HS.out] at hlt; exact (hk k (.inl hlt)).trans (hbL.block k hlt)
  case hI =>
    rintro st A B ⟨v, D, h1, h3, h0, hb, hF, hD, hown⟩ hsz hk
    rw [hzL] at hsz hk
    exact ⟨v, D, (hk.block _ h1.lt (by omega)).trans h1, (hk.block _ h3.lt (by omega)).trans h3, (hk.block _ h0.lt (by omega)).trans h0, hk.below hb (by have := hb.size; have := HS.out; omega) (fun k _ => by omega), hF.keep hk (fun k hk => by omega), hD, map_keep hown hk (by omega)⟩
  case h0 =>
    intro W hk hsz
    have hbW : Below wL.heap.size wL W := ⟨hk.os, hk.tape, hk.output, hk.size, fun k h => hk.block k h h⟩
    exact ⟨.slice none 0 0, .map [], boxed_below hL1 hbW, boxed_below hL3 hbW, boxed_below hL0 hbW, hbL.trans (hbW.mono (by omega)), FltsO.nil _ _, MapSB.nil, map_keep hL2 (Keep.of_below hbW : Keep (fun _ => True) _ _) trivial⟩
  case hAx =>
    rintro x a' A B ⟨f, q, e1, e2, hq, hc⟩ hk
    rw [hzL] at hk
    exact ⟨f, q, e1, e2, hq, (hk.block q (Array.getElem?_eq_some_iff.1 hc).1 (by omega)).trans hc⟩
  case assign =>
    intro l pre x W K hpre hsz hK
    obtain ⟨hk, rfl⟩ := pre_at hpre
    obtain ⟨f, hf⟩ : ∃ f, f = (everyF M)[pre.length] := ⟨_, rfl⟩
    rw [hzL] at hsz
    rw [← hf] at hK ⊢
    have HK := hid (hK { tmps := (fun p x => #[.slice a n cap, .pointer (some ⟨s, 0, none⟩), .slice none 0 0, .pointer (some ⟨s + 1, 0, none⟩), .pointer (some ⟨s + 3, 0, none⟩), p, undef, .map (some (s + 2)), .slice a n cap, .func (.func 126) #[] #[.pointer (some ⟨s + 4, 0, none⟩)], x, undef, undef, undef, undef, undef, undef, undef, undef, undef, undef, undef, undef, undef, undef, undef]) (.pointer (some ⟨W.heap.size, 0, none⟩)) f.val, defers := [] } (W.alloc (.cells (fltCells f).toArray 25)) ((Below.refl _ W).alloc (Nat.le_refl _) _) ⟨f, W.heap.size, rfl, rfl, by omega, alloc_cells _ _ _⟩)
    obtain ⟨kind, row, pixel⟩ := f
    simp only [Flt.val, fltCells] at HK ⊢
    clear hK hf hk hpre
    gi_wp2
    exact HK.out
  case body =>
    rintro l' pre x a' W hpre ⟨v, D, h1, h3, h0, hBW, hF, hD, hown⟩ ⟨f, q, e1, rfl, hq, hqc⟩ hWsz hDo hLo
    obtain ⟨hk, e2⟩ := pre_at hpre
    obtain rfl : f = (everyF M)[pre.length] := Flt.val_inj (e1.symm.trans e2)
    have hok := every_ok (List.getElem_mem hk)
    have htk : (everyF M).take (pre.length + 1) = (everyF M).take pre.length ++ [(everyF M)[pre.length]] := List.take_succ_eq_append_getElem hk
    have hokT : ∀ g ∈ (everyF M).take pre.length, okF M g = true := fun g hg => every_ok (List.mem_of_mem_take hg)
    have hmet := met_iff HM.out hokT hok
    have hsnoc := allTo_snoc M ((everyF M).take pre.length) (everyF M)[pre.length]
    rw [← htk] at hsnoc
    have hLm : pre.length + 1 ≤ 240 := by omega
    have hal := allTo_length M ((everyF M).take pre.length)
    rw [List.length_take] at hal
    have hal2 : (allTo M ((everyF M).take pre.length)).length ≤ 240 := by omega
    have HRW := hid (HH.out.below (by rw [← HS.out]; exact hBW))
    have HFa := hid (faulty_c W a n cap M HN.out HRW.out HM.out (everyF M)[pre.length] hok)
    obtain ⟨f, hf⟩ : ∃ f, f = (everyF M)[pre.length] := ⟨_, rfl⟩
    rw [← hf] at hok hmet hsnoc HFa hqc htk
    rw [← hf]
    obtain ⟨okf, colf⟩ := okM_faulty HM.out hok
    have hrl : ∀ r ∈ faultyM M f, r.length ≤ maxLen := fun r hr => by have := ((okM_len okf).2.2.2.2 r hr).1; have := (okM_len okf).2.2.2.1; unfold maxLen; omega
    have HFm := hid (fun (W' : World) (va : Option Addr) (vc : Nat) (hv : RowsAt W' va (faultyM M f)) => maskFormat_c W' va n vc (faultyM M f) (by rw [faultyM_row]; exact HN.out) (by have := (okM_len HM.out).2.1; have := HN.out; unfold maxLen; omega) hv)
    have hfr : (faultyM M f).length = n := by rw [faultyM_row]; exact HN.out
    have htl := textM_len okf
    obtain ⟨Mf, hMf⟩ : ∃ Mf, Mf = faultyM M f := ⟨_, rfl⟩
    rw [← hMf] at HFa HFm hmet hrl hfr htl hsnoc
    obtain ⟨S, hS⟩ : ∃ S : ByteArray, S = ⟨(textM Mf).toArray⟩ := ⟨_, rfl⟩
    have hSt : S.data.toList = textM Mf := by rw [hS]
    have hSz : S.size ≤ maxLen := by rw [hS]; unfold maxLen; simp [ByteArray.size]; omega
    rw [← hS] at HFm
    rw [← hSt] at hmet
    obtain ⟨q0, q1, q2⟩ := flt_cells hqc
    obtain ⟨XS, hXS⟩ : ∃ XS, XS = (everyF M).take pre.length := ⟨_, rfl⟩
    rw [← hXS] at hmet hsnoc hF hD htk hal2
    obtain ⟨A, hA⟩ : ∃ A, A = allTo M XS := ⟨_, rfl⟩
    rw [← hA] at hmet hsnoc hF hal2
    obtain ⟨B, hB⟩ : ∃ B, B = metB M XS S.data.toList := ⟨_, rfl⟩
    have hD' : MapSB (D.put (.string S.data.toList) (.lit (.bool true))) (metB M (XS ++ [f])) := by
      have h9 := hD.put S.data.toList true
      refine ⟨h9.1, fun t => ?_⟩
      rw [h9.2 t]
      congr 2
      unfold metB
      rw [List.any_append]
      simp only [List.any_cons, List.any_nil, Bool.or_false]
      rw [← hMf, hSt]
      by_cases e : t = textM Mf
      · subst e; simp
      · simp [e, Ne.symm e]
    rw [← hB] at hmet
    rw [← htk] at hD'
    have hRW0 : ∀ k, k < s ∨ k = s + 4 ∨ k = s + 5 ∨ k = s + 6 → k < W.heap.size := fun k hk => by rw [hzL] at hWsz; omega
    rw [hzL] at hDo hLo hWsz ⊢
    have HQC := hid hqc
    have HF := hid hF
    have HD := hid hD
    have HD2 := hid hD'
    have HOwn := hid hown
    have HB := hid hB
    have HBW := hid hBW
    have HSn := hid hsnoc
    have HMet := hid hmet
    have HTK := hid htk
    have HFR := hid hfr
    have HRL := hid hrl
    have H1 := hid h1
    have H3 := hid h3
    have H0 := hid h0
    have HSZ := hid hSz
    have c0 := h0.cell
    have HR0 := hid hRW0
    have hlen : ∀ y : Value, (pre ++ [y]).length = pre.length + 1 := fun y => by simp
    have HLEN := hid hlen
    have HA2 := hid hal2
    have hpreL := hid hLm
    clear hqc hF hD hD' hown hB hBW hsnoc hmet htk hfr hrl h1 h3 h0 hSz hRW0 hS hSt hMf hXS hA hal hal2 hokT hpre e1 e2 hk hok okf colf htl hf hDo hLo hlen hLm
    obtain ⟨kind, row, pixel⟩ := f
    simp only [Flt.val] at HFa ⊢
    simp only [] at q0 q1 q2
    gi_wp2_with (refine ⟨trivial, rfl, ?_⟩; gi_at_call 80; refine (CallsIn.inRound l' (callsIn_wide.2 HFa.out)).mono ?_; rintro e w1 ⟨fv, fbase, rfl, hfbase, hfo, hb1⟩; refine Stop.of ?_)
    refine Stop.go ?_
    obtain ⟨fa, fc, rfl, hfrows⟩ := hfo.rows HRL.out
    have HFm1 := hid (HFm.out w1 fa fc hfrows)
    rw [HFR.out]
    clear hfo hfrows hfbase
    gi_wp2_with (refine ⟨trivial, rfl, ?_⟩; gi_at_call 82; refine (CallsIn.inRound l' (callsIn_wide.2 HFm1.out)).mono ?_; rintro e w2 ⟨rfl, hb2⟩; refine Stop.of ?_)
    refine Stop.go ?_
    have hbW2 : Below W.heap.size W w2 := chain hb1 hb2
    have H12 := hid (boxed_below H1.out hbW2)
    have H32 := hid (boxed_below H3.out hbW2)
    have c3 := H32.out.cell
    have c1 := H12.out.cell
    have HOwn2 := hid (map_keep (S := fun _ => True) HOwn.out (Keep.of_below hbW2) trivial)
    have HF2 := hid (HF.out.below hbW2)
    have HQ2 := hid ((hbW2.block q (Array.getElem?_eq_some_iff.1 HQC.out).1).trans HQC.out)
    obtain ⟨p0, p1, p2⟩ := flt_cells HQ2.out
    simp only [] at p0 p1 p2
    clear q0 q1 q2 c0 hb1 hb2
    gi_wp2_with (gi_at_lookup; refine wpListIn_lookup_sb _ rfl _ _ 114 rfl 9 4 Tryz.underlying9 Tryz.underlying114 Tryz.underlying4 (Tryz.zeroValue4 _) (s + 2) _ D _ HD.out rfl HOwn2.out S rfl HSZ.out ?_; rw [← HB.out]; refine Stop.of ?_)
    refine Stop.go ?_
    have HPL := hid (show pre.length < maxLen from by have := hpreL.out; unfold maxLen; omega)
    have hs2 := hbW2.size
    cases B
    · have HR2 := hid (show w2.ownsRow (s + 7) 25 3 v A.length (fltVals A) from HF2.out)
      have M1 := hid (show A.length + 1 ≤ maxLen by have := HA2.out; unfold maxLen; omega)
      have M2 := hid (show (A.length + 1) * 24 ≤ 140737488355328 by have := HA2.out; omega)
      have M3 := hid (show s + 7 ≤ (w2.alloc (.cells (fltCells ⟨kind, row, pixel⟩).toArray 25)).heap.size by simp; omega)
      gi_wp2_with (gi_at_builtin; refine wpListIn_append_own _ rfl _ _ 36 rfl (s + 7) 25 i0 (.agg #[.int .i64 0, .int .i64 0, .int .i64 0]) 3 24 Tryz.underlying36 hi hz0 hz1 hz2 rfl (by decide) v _ _ rfl (HR2.out.alloc _) ⟨w2.heap.size, 0, none⟩ 1 1 (fltCells ⟨kind, row, pixel⟩) rfl rfl (flt_news w2 ⟨kind, row, pixel⟩ _) (flt_one _) M1.out M2.out M3.out ?_; refine Stop.of ?_)
      refine Stop.go ?_
      intro v3 w3 own3 g3 _
      obtain ⟨a3, c3, rfl⟩ := ownsRow_slice own3
      have hnb : ∀ k, v.ownBlock = some k → s + 7 ≤ k := fun k hk => (HR2.out.lt k hk).1
      have hK23 : Keep (fun k => k < s + 7) w2 w3 := by
        have k1 : Keep (fun k => k < s + 7) w2 (w2.alloc (.cells (fltCells ⟨kind, row, pixel⟩).toArray 25)) := Keep.of_below ((Below.refl _ w2).alloc (Nat.le_refl _) _)
        exact k1.trans ((Keep.grown g3).mono fun k hk e => by have := hnb k e.symm; omega)
      have H13 : Boxed w3 (s + 1) 36 v := (hK23.block _ H12.out.lt (by omega)).trans H12.out
      have H33 : Boxed w3 (s + 3) 114 (.map (some (s + 2))) := (hK23.block _ H32.out.lt (by omega)).trans H32.out
      have HOwn3 := map_keep HOwn2.out hK23 (by omega)
      have d1 := H13.cell
      have d2 := H13.frozen
      have d3 := H33.cell
      have hK4 : Keep (fun k => k ≠ s + 1) w3 (w3.setCell ⟨s + 1, 0, none⟩ (.slice a3 (A.length + 1) c3)) := Keep.set w3 (s + 1) 0 (.slice a3 (A.length + 1) c3)
      have HOwn4 := hid (map_keep HOwn3 hK4 (by omega))
      have H14 : Boxed (w3.setCell ⟨s + 1, 0, none⟩ (.slice a3 (A.length + 1) c3)) (s + 1) 36 (.slice a3 (A.length + 1) c3) := by
        have := cells_set H13 0 (.slice a3 (A.length + 1) c3)
        simpa [Boxed] using this
      have HB14 := hid H14
      have HK4 := hid hK4
      have HK23 := hid hK23
      have HO3 := hid own3
      have HW4 := hid (show (w3.setCell ⟨s + 1, 0, none⟩ (.slice a3 (A.length + 1) c3)).heap.size = w3.heap.size from by simp [World.setCell])
      clear HOwn3 H13 H33 hK4 hK23 H14 own3 g3 hnb p0 p1 p2 c1
      gi_wp2_with (gi_at_mapUpdate; refine wpListIn_mapUpdate_own _ rfl _ _ _ 114 rfl 9 4 (string_keyed Tryz.underlying9) Tryz.underlying114 _ (s + 2) _ D rfl HOwn4.out HPL.out _ _ _ rfl rfl (keyS Tryz.underlying9 HSZ.out) _ [] (plainElem_bool Tryz.underlying4 true) ?_; refine Stop.of ?_)
      refine Stop.go ?_
      intro w5 hown5 hg5
      have K5 : Keep (fun k => k ≠ s + 2) (w3.setCell ⟨s + 1, 0, none⟩ (.slice a3 (A.length + 1) c3)) w5 := (Keep.grown hg5).mono fun k hk e => hk (by simpa using e)
      have KA : Keep (fun k => k < s + 7 ∧ k ≠ s + 1 ∧ k ≠ s + 2) W w5 :=
        ((Keep.of_below hbW2).trans (HK23.out.mono fun k hk => hk.1)).trans ((HK4.out.mono fun k hk => hk.2.1).trans (K5.mono fun k hk => hk.2.2))
      gi_wp2
      refine ⟨KA.size, ?_, Value.slice a3 (A.length + 1) c3, D.put (.string S.data.toList) (.lit (.bool true)), ?_, ?_, ?_, ?_, ?_, ?_, ?_⟩
      · rintro k hk
        exact KA.block k (HR0.out k (by rcases hk with (h | h) | h | h <;> omega)) (by rcases hk with (h | h) | h | h <;> omega)
      · exact (K5.block (s + 1) HB14.out.lt (by omega)).trans HB14.out
      · exact (KA.block (s + 3) H3.out.lt (by omega)).trans H3.out
      · exact (KA.block s H0.out.lt (by omega)).trans H0.out
      · exact HBW.out.trans ⟨KA.os, KA.tape, KA.output, KA.size, fun k hk => KA.block k (HR0.out k (.inl hk)) (by omega)⟩
      · rw [HLEN.out _, HSn.out, if_neg (by rw [← HMet.out]; simp)]
        have e1 : FltsO w3 (s + 7) (.slice a3 (A.length + 1) c3) (A ++ [⟨kind, row, pixel⟩]) := by
          unfold FltsO
          rw [fltVals_snoc, List.length_append]
          exact HO3.out
        exact (e1.keep HK4.out (fun k hk => by omega)).keep K5 (fun k hk => by omega)
      · rw [HLEN.out _]; exact HD2.out
      · rw [HLEN.out _]; exact hown5
    · gi_wp2_with (gi_at_mapUpdate; refine wpListIn_mapUpdate_own _ rfl _ _ _ 114 rfl 9 4 (string_keyed Tryz.underlying9) Tryz.underlying114 _ (s + 2) _ D rfl HOwn2.out HPL.out _ _ _ rfl rfl (keyS Tryz.underlying9 HSZ.out) _ [] (plainElem_bool Tryz.underlying4 true) ?_; refine Stop.of ?_)
      refine Stop.go ?_
      intro w5 hown5 hg5
      have K5 : Keep (fun k => k ≠ s + 2) w2 w5 := (Keep.grown hg5).mono fun k hk e => hk (by simpa using e)
      have KA : Keep (fun k => k ≠ s + 2) W w5 := (Keep.of_below hbW2).trans K5
      gi_wp2
      refine ⟨KA.size, ?_, v, D.put (.string S.data.toList) (.lit (.bool true)), ?_, ?_, ?_, ?_, ?_, ?_, ?_⟩
      · rintro k hk
        exact KA.block k (HR0.out k (by rcases hk with (h | h) | h | h <;> omega)) (by rcases hk with (h | h) | h | h <;> omega)
      · exact (KA.block (s + 1) H1.out.lt (by omega)).trans H1.out
      · exact (KA.block (s + 3) H3.out.lt (by omega)).trans H3.out
      · exact (KA.block s H0.out.lt (by omega)).trans H0.out
      · exact HBW.out.trans ⟨KA.os, KA.tape, KA.output, KA.size, fun k hk => KA.block k (HR0.out k (.inl hk)) (by omega)⟩
      · rw [HLEN.out _, HSn.out, if_pos HMet.out.symm]
        exact HF.out.keep KA (fun k hk => by omega)
      · rw [HLEN.out _]; exact HD2.out
      · rw [HLEN.out _]; exact hown5
  case done =>
    rintro W ⟨v, D, h1, h3, h0, hBW, hF, hD, hown⟩ hK
    rw [hzL] at hK ⊢
    have hc1 : W.cell? ⟨s + 1, 0, none⟩ = some v := h1.cell
    rw [List.length_map, List.take_of_length_le (Nat.le_refl _)] at hF
    have hF' : FltsO W (s + 7) v (allF M) := hF
    have HFF := hid hF'
    have HBW := hid hBW
    clear hF hF' hD hown h3 h0
    gi_wp2
    refine ⟨by simp, .inl ⟨_, _, rfl, run_takeDeferred hK, ?_⟩⟩
    refine ⟨_, results_tmp rfl _ _ _, v, s + 7, rfl, by have := HS.out; omega, ?_, ?_⟩
    · exact HFF.out.keep (Keep.put W (s + 5) _) (fun k hk => by omega)
    · rw [← HS.out]; exact (Keep.put W (s + 5) _).below HBW.out (by have := HBW.out.size; have := HS.out; omega) (fun k hk => by omega)
  case stop => intro c pre W _ h _; exact h.elim
end Go.Proofs.YthaampmdponhbaaGreatDoor

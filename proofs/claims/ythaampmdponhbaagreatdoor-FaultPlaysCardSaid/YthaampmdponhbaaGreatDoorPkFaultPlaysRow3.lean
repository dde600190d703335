/- Walks and plain laws for FaultPlaysRow, part 3. -/
import Derived.WalkSpells
import Derived.Maps.AppendAt
import Derived.BigRegion
import Derived.Maps.RangeWalk
import Derived.Test.YthaampmdponhbaaGreatDoorPkFaultPlaysRow2
namespace Go.Proofs.YthaampmdponhbaaGreatDoor
open Go.RowKit Go.Maps
set_option linter.unusedVariables false
attribute [local go_sem] Oper.semAt_some

def fltCells (f : Flt) : List Value := [.int .i64 f.kind, .int .i64 f.row, .int .i64 f.pixel]
def fltVals (l : List Flt) : List Value := l.flatMap fltCells
theorem fltVals_snoc (l : List Flt) (f : Flt) : fltVals (l ++ [f]) = fltVals l ++ fltCells f := by simp [fltVals]
theorem fltVals_length (l : List Flt) : (fltVals l).length = l.length * 3 := by
  induction l with
  | nil => rfl
  | cons f l ih => show (fltCells f ++ fltVals l).length = _; rw [List.length_append, ih]; simp [fltCells]; omega
theorem fltVals_at (l : List Flt) : ∀ (j i : Nat) (hj : j < l.length), i < 3 → (fltVals l)[j * 3 + i]? = (fltCells l[j])[i]? := by
  induction l with
  | nil => intro j i hj; simp at hj
  | cons f l ih =>
    intro j i hj hi
    show (fltCells f ++ fltVals l)[j * 3 + i]? = _
    cases j with
    | zero => rw [List.getElem?_append_left (by simp [fltCells]; omega)]; simp
    | succ j =>
      rw [List.getElem?_append_right (by simp [fltCells]; omega)]
      have := ih j i (by simpa using hj) hi
      rw [show (j + 1) * 3 + i - (fltCells f).length = j * 3 + i by simp [fltCells]; omega, this]
      simp

def FltsAt (w : World) (a : Option Addr) (l : List Flt) : Prop :=
  ∀ j (hj : j < l.length), ∃ b off, a = some ⟨b, off, none⟩ ∧ b < w.heap.size ∧ w.cell? ⟨b, off + j * 3, none⟩ = some (.int .i64 l[j].kind) ∧ w.cell? ⟨b, off + j * 3 + 1, none⟩ = some (.int .i64 l[j].row) ∧ w.cell? ⟨b, off + j * 3 + 2, none⟩ = some (.int .i64 l[j].pixel)
theorem FltsAt.below {w w' : World} {a : Option Addr} {l : List Flt} (h : FltsAt w a l) (hb : Below w.heap.size w w') : FltsAt w' a l := by
  intro j hj
  obtain ⟨b, off, e, hlt, h0, h1, h2⟩ := h j hj
  exact ⟨b, off, e, Nat.lt_of_lt_of_le hlt hb.size, (hb.cell (p := ⟨b, _, none⟩) hlt).trans h0, (hb.cell (p := ⟨b, _, none⟩) hlt).trans h1, (hb.cell (p := ⟨b, _, none⟩) hlt).trans h2⟩

def FltsO (W : World) (base : Nat) (v : Value) (l : List Flt) : Prop := W.ownsRow base 25 3 v l.length (fltVals l)
theorem FltsO.nil (W : World) (base : Nat) : FltsO W base (.slice none 0 0) [] := World.ownsRow_nil _ _ _ _
theorem FltsO.keep {S : Nat → Prop} {W W' : World} {base : Nat} {v : Value} {l : List Flt} (h : FltsO W base v l) (hk : Keep S W W') (h1 : ∀ k, base ≤ k → S k) : FltsO W' base v l := by
  refine ⟨h.1, ?_⟩
  rcases h.2 with hn | ⟨g, cap, cur, rfl, hbg, hgg, rest⟩
  · exact .inl hn
  · exact .inr ⟨g, cap, cur, rfl, hbg, (hk.block g (Array.getElem?_eq_some_iff.1 hgg).1 (h1 g hbg)).trans hgg, rest⟩
theorem FltsO.below {W W' : World} {base : Nat} {v : Value} {l : List Flt} (h : FltsO W base v l) (hb : Below W.heap.size W W') : FltsO W' base v l :=
  h.keep (S := fun _ => True) (Keep.of_below hb) (fun _ _ => trivial)
theorem FltsO.reads {W : World} {base : Nat} {v : Value} {l : List Flt} (h : FltsO W base v l) : ∃ a cap, v = .slice a l.length cap ∧ l.length ≤ maxLen ∧ FltsAt W a l := by
  rcases h.2 with ⟨rfl, h0⟩ | ⟨g, cap, cur, rfl, hbg, hgg, hnc, hcm, hsz, htk⟩
  · exact ⟨none, 0, by rw [h0], by rw [h0]; decide, fun j hj => by omega⟩
  · refine ⟨_, cap, rfl, by omega, fun j hj => ⟨g, 0, rfl, (Array.getElem?_eq_some_iff.1 hgg).1, ?_⟩⟩
    have hc : ∀ i, i < l.length * 3 → W.cell? ⟨g, i, none⟩ = (fltVals l)[i]? := fun i hi =>
      World.ownsRow.cellAt (w := W) (base := base) (e := 25) (size := 3) (g := g) (n := l.length) (cap := cap) (xs := fltVals l) ⟨h.1, .inr ⟨g, cap, cur, rfl, hbg, hgg, hnc, hcm, hsz, htk⟩⟩ i hi
    refine ⟨?_, ?_, ?_⟩
    · rw [Nat.zero_add, hc _ (by omega)]; exact fltVals_at l j 0 hj (by omega)
    · rw [Nat.zero_add, hc _ (by omega)]; exact fltVals_at l j 1 hj (by omega)
    · rw [Nat.zero_add, hc _ (by omega)]; exact fltVals_at l j 2 hj (by omega)

theorem info_fault : (Tryz.prog.info? 25).map (fun i => (i.zero, i.size, i.bytes)) = some (some (.agg #[.int .i64 0, .int .i64 0, .int .i64 0]), 3, 24) := by kernel_rfl

theorem each_c (a : Option Addr) (n cap : Nat) (w : World) : Calls Tryz.prog 98 #[.slice a n cap] w
    fun e w' => e = .returned (.func (.func 126) #[] #[.pointer (some ⟨w.heap.size, 0, none⟩)]) ∧ w' = w.alloc (.cells #[.slice a n cap] 23) := by
  have hmf : ∀ (fn : Fn) (first cap : Array Value) (w : World), (Instr.makeFunc fn first cap).run Tryz.prog w = .ok (.func fn first cap) w := fun _ _ _ _ => rfl
  go_enter Tryz.func98, Tryz.ntmps98
  go_wp2
  go_ret
  exact ⟨rfl, rfl⟩

theorem cell_blocks {W W' : World} {b o : Nat} {v : Value} (h : W.cell? ⟨b, o, none⟩ = some v) (hk : W'.heap[b]? = W.heap[b]?) : W'.cell? ⟨b, o, none⟩ = some v :=
  (World.cell?_of_block (a := ⟨b, o, none⟩) hk).trans h
theorem lt_blocks {W W' : World} {b : Nat} (h : b < W.heap.size) (hk : W'.heap[b]? = W.heap[b]?) : b < W'.heap.size := by
  rcases Nat.lt_or_ge b W'.heap.size with h' | h'
  · exact h'
  · rw [Array.getElem?_eq_none h', Array.getElem?_eq_getElem h] at hk; cases hk
theorem IntsAt.blocks {W W' : World} {a : Option Addr} {l : List Int} (h : IntsAt W a l) (hk : ∀ k, k < W.heap.size → W'.heap[k]? = W.heap[k]?) : IntsAt W' a l := by
  intro j hj
  obtain ⟨b, off, e, hb, hc⟩ := h j hj
  exact ⟨b, off, e, lt_blocks hb (hk b hb), cell_blocks hc (hk b hb)⟩
theorem RowsAt.blocks {W W' : World} {a : Option Addr} {l : List (List Int)} (h : RowsAt W a l) (hk : ∀ k, k < W.heap.size → W'.heap[k]? = W.heap[k]?) : RowsAt W' a l := by
  intro j hj
  obtain ⟨b, off, ra, n, cap, e, hb, hc, h1, h2, h3⟩ := h j hj
  exact ⟨b, off, ra, n, cap, e, lt_blocks hb (hk b hb), cell_blocks hc (hk b hb), h1, h2, h3.blocks hk⟩

theorem boxed_below {W W' : World} {b : Nat} {T : TypeId} {v : Value} (h : Boxed W b T v) (hb : Below W.heap.size W W') : Boxed W' b T v := (hb.block b h.lt).trans h

def metB (M : Mask) (xs : List Flt) (s : List UInt8) : Bool := xs.any (fun f => decide (textM (faultyM M f) = s))

theorem met_iff {M : Mask} (hM : okM M = true) {xs : List Flt} (hx : ∀ f ∈ xs, okF M f = true) {f : Flt} (hf : okF M f = true) :
    metB M xs (textM (faultyM M f)) = (allTo M xs).any (fun g => decide (faultyM M g = faultyM M f)) := by
  rw [Bool.eq_iff_iff]
  unfold metB
  simp only [List.any_eq_true, decide_eq_true_eq]
  constructor
  · rintro ⟨g, hg, e⟩
    obtain ⟨k, hk, e2⟩ := allTo_has (M := M) hg
    exact ⟨k, hk, e2.trans (textM_inj (okM_faulty hM (hx g hg)).1 (okM_faulty hM hf).1 e)⟩
  · rintro ⟨g, hg, e⟩
    exact ⟨g, allTo_mem hg, by rw [e]⟩

theorem textM_len {M : Mask} (h : okM M = true) : (textM M).length ≤ 66 := by
  obtain ⟨_, m6, _, c10, hrows⟩ := okM_len h
  unfold textM
  rw [if_pos h]
  have := fmtM_length M 10 (fun r hr => by rw [(hrows r hr).1]; exact c10)
  calc (fmtM M).length ≤ M.length * (10 + 1) := this
    _ ≤ 6 * 11 := Nat.mul_le_mul m6 (Nat.le_refl _)

def AxAll (L : Nat) (tm : Value → Value → Array Value) (x : Value) (a' : Act) (W : World) : Prop :=
  ∃ (f : Flt) (q : Nat), x = f.val ∧ a' = { tmps := tm (.pointer (some ⟨q, 0, none⟩)) f.val, defers := [] } ∧ L + 2 ≤ q ∧ W.heap[q]? = some (.cells (fltCells f).toArray 25 (0, 0))
theorem Flt.val_inj {f g : Flt} (h : f.val = g.val) : f = g := by
  obtain ⟨a, b, c⟩ := f
  obtain ⟨a', b', c'⟩ := g
  simp only [Flt.val] at h
  simp at h
  obtain ⟨rfl, rfl, rfl⟩ := h
  rfl
theorem pre_at {L : List Flt} {pre : List Value} {x : Value} (h : pre ++ [x] <+: L.map Flt.val) : ∃ hk : pre.length < L.length, x = Flt.val L[pre.length] := by
  obtain ⟨t, ht⟩ := h
  have h1 := congrArg List.length ht
  simp at h1
  have hlt : pre.length < L.length := by omega
  refine ⟨hlt, ?_⟩
  have h2 := congrArg (fun l => l[pre.length]?) ht
  simp only [List.append_assoc] at h2
  rw [List.getElem?_append_right (Nat.le_refl _), List.getElem?_map, List.getElem?_eq_getElem hlt] at h2
  simpa using h2
theorem flt_cells {W : World} {q : Nat} {f : Flt} {T : TypeId} (h : W.heap[q]? = some (.cells (fltCells f).toArray T (0, 0))) : W.cell? ⟨q, 0, none⟩ = some (.int .i64 f.kind) ∧ W.cell? ⟨q, 1, none⟩ = some (.int .i64 f.row) ∧ W.cell? ⟨q, 2, none⟩ = some (.int .i64 f.pixel) := by
  refine ⟨?_, ?_, ?_⟩ <;> simp [World.cell?, h, fltCells]
theorem alloc_cells (w : World) (cs : Array Value) (T : TypeId) : (w.alloc (.cells cs T)).heap[w.heap.size]? = some (.cells cs T (0, 0)) := World.alloc_heap_new w _
theorem flt_news (w : World) (f : Flt) (T : TypeId) : ∀ j u, (fltCells f)[j]? = some u → (w.alloc (.cells (fltCells f).toArray T)).cell? ((⟨w.heap.size, 0, none⟩ : Addr).add j) = some u := by
  intro j u hu
  rw [Addr.add_lit, World.cell?_alloc_at _ _ _ _ rfl]
  simpa using hu
theorem flt_one (f : Flt) : ∀ u ∈ fltCells f, u.oneCell' = true := by
  intro u hu
  simp only [fltCells, List.mem_cons, List.not_mem_nil, or_false] at hu
  rcases hu with rfl | rfl | rfl <;> rfl
theorem map_keep {P : Program} {k : TypeId} {R : Value → Option (DataW Unit × List MemPlace)} {S : Nat → Prop} {W W' : World} {b n : Nat} {D : DataW Unit} (h : W.ownsMap P k R b n D) (hk : Keep S W W') (hS : S b) : W'.ownsMap P k R b n D := by
  obtain ⟨es, clock, hb, F, q1, q2⟩ := h
  exact ⟨es, clock, (hk.block _ (Array.getElem?_eq_some_iff.1 hb).1 hS).trans hb, F, q1, q2⟩

set_option maxRecDepth 100000 in
set_option maxHeartbeats 4000000 in
theorem all_c (w : World) (a : Option Addr) (n cap : Nat) (M : Mask) (hn : M.length = n) (H : RowsAt w a M) (hM : okM M = true) :
    Calls Tryz.prog 63 #[.slice a n cap] w fun e w' => ∃ v base, e = .returned v ∧ w.heap.size ≤ base ∧ FltsO w' base v (allF M) ∧ Below w.heap.size w w' := by
  have HN := hid hn
  have HH := hid H
  have HM := hid hM
  have hmm := @run_makeMap Tryz.prog
  obtain ⟨i0, hi, hz0, hz1, hz2⟩ := info_parts info_fault
  clear hn H hM
  refine callsIn_wide (n := 0) |>.1 ?_
  refine callsIn_of_wp_marks Tryz.func63 rfl trivial ?_ rfl
  simp only [Tryz.ntmps63, List.size_toArray, List.length_cons, List.length_nil, Nat.reduceAdd, Nat.reduceSub, Array.replicate_succ, Array.replicate_zero, List.push_toArray, List.append_toArray, List.nil_append, List.cons_append]
  gi_wp2_with (refine ⟨trivial, rfl, ?_⟩; gi_at_call 98; refine (callsIn_wide.2 (each_c _ _ _ _)).mono ?_; rintro e w' ⟨rfl, rfl⟩)
  obtain ⟨s, hs⟩ : ∃ s, s = w.heap.size := ⟨_, rfl⟩
  rw [← hs]
  obtain ⟨w3, hw3⟩ : ∃ w3, w3 = ((w.alloc (.cells #[.slice a n cap] 23)).alloc (.cells #[.slice none 0 0] 36)).alloc (.map #[] 0) := ⟨_, rfl⟩
  have hz3 : w3.heap.size = s + 3 := by rw [hw3, hs]; simp
  have hmade : w3.ownsMap Tryz.prog 9 (plainElem (H := Unit) Tryz.prog 4) (s + 2) 0 (.map []) := by
    have := World.ownsMap_made (H := Unit) ((w.alloc (.cells #[.slice a n cap] 23)).alloc (.cells #[.slice none 0 0] 36)) Tryz.prog 9 (plainElem Tryz.prog 4)
    rw [hw3, hs]
    simpa using this
  have hB0 : Boxed w3 s 23 (.slice a n cap) := by
    rw [hw3, hs]; exact ((Boxed.new w 23 (.slice a n cap)).alloc _).alloc _
  have hB1 : Boxed w3 (s + 1) 36 (.slice none 0 0) := by
    have := Boxed.new (w.alloc (.cells #[.slice a n cap] 23)) 36 (.slice none 0 0)
    rw [World.size_alloc, ← hs] at this
    rw [hw3]; exact this.alloc _
  have hb3 : Below s w w3 := by rw [hw3, hs]; exact (((Below.refl _ w).alloc (Nat.le_refl _) _).alloc (by simp) _).alloc (by simp; omega) _
  rw [← hw3]
  obtain ⟨wL, hwL⟩ : ∃ wL, wL = (w3.alloc (.cells #[.map (some (s + 2))] 114)).alloc (.cells #[.slice a n cap] 23) := ⟨_, rfl⟩
  have hzL : wL.heap.size = s + 5 := by rw [hwL]; simp [hz3]
  have hb3L : Below w3.heap.size w3 wL := by rw [hwL]; exact ((Below.refl _ w3).alloc (Nat.le_refl _) _).alloc (by simp) _
  have hbL : Below s w wL := hb3.trans (hb3L.mono (by omega))
  have hL0 : Boxed wL s 23 (.slice a n cap) := boxed_below hB0 hb3L
  have hL1 : Boxed wL (s + 1) 36 (.slice none 0 0) := boxed_below hB1 hb3L
  have hL2 : wL.ownsMap Tryz.prog 9 (plainElem (H := Unit) Tryz.prog 4) (s + 2) 0 (.map []) := by rw [hwL]; exact (hmade.alloc _).alloc _
  have hL3 : Boxed wL (s + 3) 114 (.map (some (s + 2))) := by
    have := Boxed.new w3 114 (.map (some (s + 2)))
    rw [hz3] at this
    rw [hwL]; exact this.alloc _
  have hL4 : Boxed wL (s + 4) 23 (.slice a n cap) := by
    have := Boxed.new (w3.alloc (.cells #[.map (some (s + 2))] 114)) 23 (.slice a n cap)
    rw [World.size_alloc, hz3] at this
    rw [hwL]; exact this
  have hHL : RowsAt wL a M := HH.out.below (by rw [← hs]; exact hbL)
  rw [show s + 1 + 1 + 1 + 1 = s + 4 from rfl, show s + 1 + 1 + 1 = s + 3 from rfl, show s + 1 + 1 = s + 2 from rfl]
  rw [← hwL]
  have hHS := HH.out
  have hall := every_240 HM.out
  have HS := hid hs
  have HHL := hid hHL
  clear hwL hw3 hs hmm hHS hHL
  refine range_vals (gf := 126) (lb := #[.pointer (some ⟨s + 4, 0, none⟩)]) (xs := (everyF M).map Flt.val) (fp := fun k => k < s ∨ k = s + 4) (w0 := wL) rfl (enters_of Tryz.func126 (by kernel_rfl) rfl)
    (iter_faults wL (s + 4) a n cap M HN.out HHL.out HM.out (by omega) hL4.cell s (by omega) (Below.refl _ _) ?hold) (Below.refl _ _) (by intro k hk; omega)
    (fun pre W => ∃ v D, Boxed W (s + 1) 36 v ∧ Boxed W (s + 3) 114 (.map (some (s + 2))) ∧ Boxed W s 23 (.slice a n cap) ∧ Below s w W ∧ FltsO W (s + 7) v (allTo M ((everyF M).take pre.length)) ∧ MapSB D (metB M ((everyF M).take pre.length)) ∧ W.ownsMap Tryz.prog 9 (plainElem (H := Unit) Tryz.prog 4) (s + 2) pre.length D)
    (fun _ _ _ => False) ?hI (fun _ _ _ _ h _ => h) ?h0
    (AxAll (s + 5) (fun p x => #[.slice a n cap, .pointer (some ⟨s, 0, none⟩), .slice none 0 0, .pointer (some ⟨s + 1, 0, none⟩), .pointer (some ⟨s + 3, 0, none⟩), p, undef, .map (some (s + 2)), .slice a n cap, .func (.func 126) #[] #[.pointer (some ⟨s + 4, 0, none⟩)], x, undef, undef, undef, undef, undef, undef, undef, undef, undef, undef, undef, undef, undef, undef, undef])) ?hAx ?assign ?body ?done ?stop
  case hold =>
    intro W hk
    exact HH.out.blocks fun k hlt => by rw [← HS.out] at hlt; exact (hk k (.inl hlt)).trans (hbL.block k hlt)
  case hI =>
    rintro st A B ⟨v, D, h1, h3, h0, hb, hF, hD, hown⟩ hsz hk
    rw [hzL] at hsz hk
    exact ⟨v, D, (hk.block _ h1.lt (by omega)).trans h1, (hk.block _ h3.lt (by omega)).trans h3, (hk.block _ h0.lt (by omega)).trans h0, hk.below hb (by have := hb.size; have := HS.out; omega) (fun k _ => by omega), hF.keep hk (fun k hk => by omega), hD, map_keep hown hk (by omega)⟩
  case h0 =>
    intro W hk hsz
    have hbW : Below wL.heap.size wL W := ⟨hk.os, hk.tape, hk.output, hk.size, fun k h => hk.block k h h⟩
    exact ⟨.slice none 0 0, .map [], boxed_below hL1 hbW, boxed_below hL3 hbW, boxed_below hL0 hbW, hbL.trans (hbW.mono (by omega)), FltsO.nil _ _, MapSB.nil, map_keep hL2 (Keep.of_below hbW : Keep (fun _ => True) _ _) trivial⟩
  case hAx =>
    rintro x a' A B ⟨f, q, e1, e2, hq, hc⟩ hk
    rw [hzL] at hk
    exact ⟨f, q, e1, e2, hq, (hk.block q (Array.getElem?_eq_some_iff.1 hc).1 (by omega)).trans hc⟩
  case assign =>
    intro l pre x W K hpre hsz hK
    obtain ⟨hk, rfl⟩ := pre_at hpre
    obtain ⟨f, hf⟩ : ∃ f, f = (everyF M)[pre.length] := ⟨_, rfl⟩
    rw [hzL] at hsz
    rw [← hf] at hK ⊢
    have HK := hid (hK { tmps := (fun p x => #[.slice a n cap, .pointer (some ⟨s, 0, none⟩), .slice none 0 0, .pointer (some ⟨s + 1, 0, none⟩), .pointer (some ⟨s + 3, 0, none⟩), p, undef, .map (some (s + 2)), .slice a n cap, .func (.func 126) #[] #[.pointer (some ⟨s + 4, 0, none⟩)], x, undef, undef, undef, undef, undef, undef, undef, undef, undef, undef, undef, undef, undef, undef, undef]) (.pointer (some ⟨W.heap.size, 0, none⟩)) f.val, defers := [] } (W.alloc (.cells (fltCells f).toArray 25)) ((Below.refl _ W).alloc (Nat.le_refl _) _) ⟨f, W.heap.size, rfl, rfl, by omega, alloc_cells _ _ _⟩)
    obtain ⟨kind, row, pixel⟩ := f
    simp only [Flt.val, fltCells] at HK ⊢
    clear hK hf hk hpre
    gi_wp2
    exact HK.out
  case body =>
    rintro l' pre x a' W hpre ⟨v, D, h1, h3, h0, hBW, hF, hD, hown⟩ ⟨f, q, e1, rfl, hq, hqc⟩ hWsz hDo hLo
    obtain ⟨hk, e2⟩ := pre_at hpre
    obtain rfl : f = (everyF M)[pre.length] := Flt.val_inj (e1.symm.trans e2)
    have hok := every_ok (List.getElem_mem hk)
    have htk : (everyF M).take (pre.length + 1) = (everyF M).take pre.length ++ [(everyF M)[pre.length]] := List.take_succ_eq_append_getElem hk
    have hokT : ∀ g ∈ (everyF M).take pre.length, okF M g = true := fun g hg => every_ok (List.mem_of_mem_take hg)
    have hmet := met_iff HM.out hokT hok
    have hsnoc := allTo_snoc M ((everyF M).take pre.length) (everyF M)[pre.length]
    rw [← htk] at hsnoc
    have hLm : pre.length + 1 ≤ 240 := by omega
    have hal := allTo_length M ((everyF M).take pre.length)
    rw [List.length_take] at hal
    have hal2 : (allTo M ((everyF M).take pre.length)).length ≤ 240 := by omega
    have HRW := hid (HH.out.below (by rw [← HS.out]; exact hBW))
    have HFa := hid (faulty_c W a n cap M HN.out HRW.out HM.out (everyF M)[pre.length] hok)
    obtain ⟨f, hf⟩ : ∃ f, f = (everyF M)[pre.length] := ⟨_, rfl⟩
    rw [← hf] at hok hmet hsnoc HFa hqc htk
    rw [← hf]
    obtain ⟨okf, colf⟩ := okM_faulty HM.out hok
    have hrl : ∀ r ∈ faultyM M f, r.length ≤ maxLen := fun r hr => by have := ((okM_len okf).2.2.2.2 r hr).1; have := (okM_len okf).2.2.2.1; unfold maxLen; omega
    have HFm := hid (fun (W' : World) (va : Option Addr) (vc : Nat) (hv : RowsAt W' va (faultyM M f)) => maskFormat_c W' va n vc (faultyM M f) (by rw [faultyM_row]; exact HN.out) (by have := (okM_len HM.out).2.1; have := HN.out; unfold maxLen; omega) hv)
    have hfr : (faultyM M f).length = n := by rw [faultyM_row]; exact HN.out
    have htl := textM_len okf
    obtain ⟨Mf, hMf⟩ : ∃ Mf, Mf = faultyM M f := ⟨_, rfl⟩
    rw [← hMf] at HFa HFm hmet hrl hfr htl hsnoc
    obtain ⟨S, hS⟩ : ∃ S : ByteArray, S = ⟨(textM Mf).toArray⟩ := ⟨_, rfl⟩
    have hSt : S.data.toList = textM Mf := by rw [hS]
    have hSz : S.size ≤ maxLen := by rw [hS]; unfold maxLen; simp [ByteArray.size]; omega
    rw [← hS] at HFm
    rw [← hSt] at hmet
    obtain ⟨q0, q1, q2⟩ := flt_cells hqc
    obtain ⟨XS, hXS⟩ : ∃ XS, XS = (everyF M).take pre.length := ⟨_, rfl⟩
    rw [← hXS] at hmet hsnoc hF hD htk hal2
    obtain ⟨A, hA⟩ : ∃ A, A = allTo M XS := ⟨_, rfl⟩
    rw [← hA] at hmet hsnoc hF hal2
    obtain ⟨B, hB⟩ : ∃ B, B = metB M XS S.data.toList := ⟨_, rfl⟩
    have hD' : MapSB (D.put (.string S.data.toList) (.lit (.bool true))) (metB M (XS ++ [f])) := by
      have h9 := hD.put S.data.toList true
      refine ⟨h9.1, fun t => ?_⟩
      rw [h9.2 t]
      congr 2
      unfold metB
      rw [List.any_append]
      simp only [List.any_cons, List.any_nil, Bool.or_false]
      rw [← hMf, hSt]
      by_cases e : t = textM Mf
      · subst e; simp
      · simp [e, Ne.symm e]
    rw [← hB] at hmet
    rw [← htk] at hD'
    have hRW0 : ∀ k, k < s ∨ k = s + 4 ∨ k = s + 5 ∨ k = s + 6 → k < W.heap.size := fun k hk => by rw [hzL] at hWsz; omega
    rw [hzL] at hDo hLo hWsz ⊢
    have HQC := hid hqc
    have HF := hid hF
    have HD := hid hD
    have HD2 := hid hD'
    have HOwn := hid hown
    have HB := hid hB
    have HBW := hid hBW
    have HSn := hid hsnoc
    have HMet := hid hmet
    have HTK := hid htk
    have HFR := hid hfr
    have HRL := hid hrl
    have H1 := hid h1
    have H3 := hid h3
    have H0 := hid h0
    have HSZ := hid hSz
    have c0 := h0.cell
    have HR0 := hid hRW0
    have hlen : ∀ y : Value, (pre ++ [y]).length = pre.length + 1 := fun y => by simp
    have HLEN := hid hlen
    have HA2 := hid hal2
    have hpreL := hid hLm
    clear hqc hF hD hD' hown hB hBW hsnoc hmet htk hfr hrl h1 h3 h0 hSz hRW0 hS hSt hMf hXS hA hal hal2 hokT hpre e1 e2 hk hok okf colf htl hf hDo hLo hlen hLm
    obtain ⟨kind, row, pixel⟩ := f
    simp only [Flt.val] at HFa ⊢
    simp only [] at q0 q1 q2
    gi_wp2_with (refine ⟨trivial, rfl, ?_⟩; gi_at_call 80; refine (CallsIn.inRound l' (callsIn_wide.2 HFa.out)).mono ?_; rintro e w1 ⟨fv, fbase, rfl, hfbase, hfo, hb1⟩; refine Stop.of ?_)
    refine Stop.go ?_
    obtain ⟨fa, fc, rfl, hfrows⟩ := hfo.rows HRL.out
    have HFm1 := hid (HFm.out w1 fa fc hfrows)
    rw [HFR.out]
    clear hfo hfrows hfbase
    gi_wp2_with (refine ⟨trivial, rfl, ?_⟩; gi_at_call 82; refine (CallsIn.inRound l' (callsIn_wide.2 HFm1.out)).mono ?_; rintro e w2 ⟨rfl, hb2⟩; refine Stop.of ?_)
    refine Stop.go ?_
    have hbW2 : Below W.heap.size W w2 := chain hb1 hb2
    have H12 := hid (boxed_below H1.out hbW2)
    have H32 := hid (boxed_below H3.out hbW2)
    have c3 := H32.out.cell
    have c1 := H12.out.cell
    have HOwn2 := hid (map_keep (S := fun _ => True) HOwn.out (Keep.of_below hbW2) trivial)
    have HF2 := hid (HF.out.below hbW2)
    have HQ2 := hid ((hbW2.block q (Array.getElem?_eq_some_iff.1 HQC.out).1).trans HQC.out)
    obtain ⟨p0, p1, p2⟩ := flt_cells HQ2.out
    simp only [] at p0 p1 p2
    clear q0 q1 q2 c0 hb1 hb2
    gi_wp2_with (gi_at_lookup; refine wpListIn_lookup_sb _ rfl _ _ 114 rfl 9 4 Tryz.underlying9 Tryz.underlying114 Tryz.underlying4 (Tryz.zeroValue4 _) (s + 2) _ D _ HD.out rfl HOwn2.out S rfl HSZ.out ?_; rw [← HB.out]; refine Stop.of ?_)
    refine Stop.go ?_
    have HPL := hid (show pre.length < maxLen from by have := hpreL.out; unfold maxLen; omega)
    have hs2 := hbW2.size
    cases B
    · have HR2 := hid (show w2.ownsRow (s + 7) 25 3 v A.length (fltVals A) from HF2.out)
      have M1 := hid (show A.length + 1 ≤ maxLen by have := HA2.out; unfold maxLen; omega)
      have M2 := hid (show (A.length + 1) * 24 ≤ 140737488355328 by have := HA2.out; omega)
      have M3 := hid (show s + 7 ≤ (w2.alloc (.cells (fltCells ⟨kind, row, pixel⟩).toArray 25)).heap.size by simp; omega)
      gi_wp2_with (gi_at_builtin; refine wpListIn_append_own _ rfl _ _ 36 rfl (s + 7) 25 i0 (.agg #[.int .i64 0, .int .i64 0, .int .i64 0]) 3 24 Tryz.underlying36 hi hz0 hz1 hz2 rfl (by decide) v _ _ rfl (HR2.out.alloc _) ⟨w2.heap.size, 0, none⟩ 1 1 (fltCells ⟨kind, row, pixel⟩) rfl rfl (flt_news w2 ⟨kind, row, pixel⟩ _) (flt_one _) M1.out M2.out M3.out ?_; refine Stop.of ?_)
      refine Stop.go ?_
      intro v3 w3 own3 g3 _
      obtain ⟨a3, c3, rfl⟩ := ownsRow_slice own3
      have hnb : ∀ k, v.ownBlock = some k → s + 7 ≤ k := fun k hk => (HR2.out.lt k hk).1
      have hK23 : Keep (fun k => k < s + 7) w2 w3 := by
        have k1 : Keep (fun k => k < s + 7) w2 (w2.alloc (.cells (fltCells ⟨kind, row, pixel⟩).toArray 25)) := Keep.of_below ((Below.refl _ w2).alloc (Nat.le_refl _) _)
        exact k1.trans ((Keep.grown g3).mono fun k hk e => by have := hnb k e.symm; omega)
      have H13 : Boxed w3 (s + 1) 36 v := (hK23.block _ H12.out.lt (by omega)).trans H12.out
      have H33 : Boxed w3 (s + 3) 114 (.map (some (s + 2))) := (hK23.block _ H32.out.lt (by omega)).trans H32.out
      have HOwn3 := map_keep HOwn2.out hK23 (by omega)
      have d1 := H13.cell
      have d2 := H13.frozen
      have d3 := H33.cell
      have hK4 : Keep (fun k => k ≠ s + 1) w3 (w3.setCell ⟨s + 1, 0, none⟩ (.slice a3 (A.length + 1) c3)) := Keep.set w3 (s + 1) 0 (.slice a3 (A.length + 1) c3)
      have HOwn4 := hid (map_keep HOwn3 hK4 (by omega))
      have H14 : Boxed (w3.setCell ⟨s + 1, 0, none⟩ (.slice a3 (A.length + 1) c3)) (s + 1) 36 (.slice a3 (A.length + 1) c3) := by
        have := cells_set H13 0 (.slice a3 (A.length + 1) c3)
        simpa [Boxed] using this
      have HB14 := hid H14
      have HK4 := hid hK4
      have HK23 := hid hK23
      have HO3 := hid own3
      have HW4 := hid (show (w3.setCell ⟨s + 1, 0, none⟩ (.slice a3 (A.length + 1) c3)).heap.size = w3.heap.size from by simp [World.setCell])
      clear HOwn3 H13 H33 hK4 hK23 H14 own3 g3 hnb p0 p1 p2 c1
      gi_wp2_with (gi_at_mapUpdate; refine wpListIn_mapUpdate_own _ rfl _ _ _ 114 rfl 9 4 (string_keyed Tryz.underlying9) Tryz.underlying114 _ (s + 2) _ D rfl HOwn4.out HPL.out _ _ _ rfl rfl (keyS Tryz.underlying9 HSZ.out) _ [] (plainElem_bool Tryz.underlying4 true) ?_; refine Stop.of ?_)
      refine Stop.go ?_
      intro w5 hown5 hg5
      have K5 : Keep (fun k => k ≠ s + 2) (w3.setCell ⟨s + 1, 0, none⟩ (.slice a3 (A.length + 1) c3)) w5 := (Keep.grown hg5).mono fun k hk e => hk (by simpa using e)
      have KA : Keep (fun k => k < s + 7 ∧ k ≠ s + 1 ∧ k ≠ s + 2) W w5 :=
        ((Keep.of_below hbW2).trans (HK23.out.mono fun k hk => hk.1)).trans ((HK4.out.mono fun k hk => hk.2.1).trans (K5.mono fun k hk => hk.2.2))
      gi_wp2
      refine ⟨KA.size, ?_, Value.slice a3 (A.length + 1) c3, D.put (.string S.data.toList) (.lit (.bool true)), ?_, ?_, ?_, ?_, ?_, ?_, ?_⟩
      · rintro k hk
        exact KA.block k (HR0.out k (by rcases hk with (h | h) | h | h <;> omega)) (by rcases hk with (h | h) | h | h <;> omega)
      · exact (K5.block (s + 1) HB14.out.lt (by omega)).trans HB14.out
      · exact (KA.block (s + 3) H3.out.lt (by omega)).trans H3.out
      · exact (KA.block s H0.out.lt (by omega)).trans H0.out
      · exact HBW.out.trans ⟨KA.os, KA.tape, KA.output, KA.size, fun k hk => KA.block k (HR0.out k (.inl hk)) (by omega)⟩
      · rw [HLEN.out _, HSn.out, if_neg (by rw [← HMet.out]; simp)]
        have e1 : FltsO w3 (s + 7) (.slice a3 (A.length + 1) c3) (A ++ [⟨kind, row, pixel⟩]) := by
          unfold FltsO
          rw [fltVals_snoc, List.length_append]
          exact HO3.out
        exact (e1.keep HK4.out (fun k hk => by omega)).keep K5 (fun k hk => by omega)
      · rw [HLEN.out _]; exact HD2.out
      · rw [HLEN.out _]; exact hown5
    · gi_wp2_with (gi_at_mapUpdate; refine wpListIn_mapUpdate_own _ rfl _ _ _ 114 rfl 9 4 (string_keyed Tryz.underlying9) Tryz.underlying114 _ (s + 2) _ D rfl HOwn2.out HPL.out _ _ _ rfl rfl (keyS Tryz.underlying9 HSZ.out) _ [] (plainElem_bool Tryz.underlying4 true) ?_; refine Stop.of ?_)
      refine Stop.go ?_
      intro w5 hown5 hg5
      have K5 : Keep (fun k => k ≠ s + 2) w2 w5 := (Keep.grown hg5).mono fun k hk e => hk (by simpa using e)
      have KA : Keep (fun k => k ≠ s + 2) W w5 := (Keep.of_below hbW2).trans K5
      gi_wp2
      refine ⟨KA.size, ?_, v, D.put (.string S.data.toList) (.lit (.bool true)), ?_, ?_, ?_, ?_, ?_, ?_, ?_⟩
      · rintro k hk
        exact KA.block k (HR0.out k (by rcases hk with (h | h) | h | h <;> omega)) (by rcases hk with (h | h) | h | h <;> omega)
      · exact (KA.block (s + 1) H1.out.lt (by omega)).trans H1.out
      · exact (KA.block (s + 3) H3.out.lt (by omega)).trans H3.out
      · exact (KA.block s H0.out.lt (by omega)).trans H0.out
      · exact HBW.out.trans ⟨KA.os, KA.tape, KA.output, KA.size, fun k hk => KA.block k (HR0.out k (.inl hk)) (by omega)⟩
      · rw [HLEN.out _, HSn.out, if_pos HMet.out.symm]
        exact HF.out.keep KA (fun k hk => by omega)
      · rw [HLEN.out _]; exact HD2.out
      · rw [HLEN.out _]; exact hown5
  case done =>
    rintro W ⟨v, D, h1, h3, h0, hBW, hF, hD, hown⟩ hK
    rw [hzL] at hK ⊢
    have hc1 : W.cell? ⟨s + 1, 0, none⟩ = some v := h1.cell
    rw [List.length_map, List.take_of_length_le (Nat.le_refl _)] at hF
    have hF' : FltsO W (s + 7) v (allF M) := hF
    have HFF := hid hF'
    have HBW := hid hBW
    clear hF hF' hD hown h3 h0
    gi_wp2
    refine ⟨by simp, .inl ⟨_, _, rfl, run_takeDeferred hK, ?_⟩⟩
    refine ⟨_, results_tmp rfl _ _ _, v, s + 7, rfl, by have := HS.out; omega, ?_, ?_⟩
    · exact HFF.out.keep (Keep.put W (s + 5) _) (fun k hk => by omega)
    · rw [← HS.out]; exact (Keep.put W (s + 5) _).below HBW.out (by have := HBW.out.size; have := HS.out; omega) (fun k hk => by omega)
  case stop => intro c pre W _ h _; exact h.elim
end Go.Proofs.YthaampmdponhbaaGreatDoor

namespace Go.Proofs.YthaampmdponhbaaGreatDoor
open Go.RowKit Go.Maps
set_option linter.unusedVariables false

theorem told_len {M : Mask} (hM : okM M = true) (f : Flt) (L : List (List Int)) : (toldT M f L).length ≤ 132 * L.length := by
  induction L with
  | nil => simp [toldT]
  | cons x L ih =>
    have h1 := numT_length (readF M f x) (readM_isInt _ _)
    have h2 := (okM_len hM).2.1
    rw [readF_length] at h1
    have e : toldT M f (x :: L) = numT (readF M f x) ++ toldT M f L := by simp [toldT]
    rw [e, List.length_append, List.length_cons]
    omega

def firstI (M : Mask) (L : List (List Int)) (xs : List Flt) (s : List UInt8) : Option Int :=
  if xs.any (fun g => decide (toldT M g L = s)) then some (xs.findIdx (fun g => decide (toldT M g L = s)) : Nat) else none
theorem firstI_snoc (M : Mask) (L : List (List Int)) (xs : List Flt) (f : Flt) (t : List UInt8) :
    firstI M L (xs ++ [f]) t = if t = toldT M f L then some ((firstI M L xs t).getD xs.length) else firstI M L xs t := by
  unfold firstI
  rw [List.any_append, List.findIdx_append]
  cases h : xs.any (fun g => decide (toldT M g L = t))
  · have h2 : ¬ xs.findIdx (fun g => decide (toldT M g L = t)) < xs.length := by
      rw [List.findIdx_lt_length]
      rintro ⟨g, hg, e⟩
      have := List.any_eq_false.1 h g hg
      exact this e
    rw [if_neg h2]
    by_cases e : t = toldT M f L
    · subst e; simp
    · have e' : ¬ toldT M f L = t := fun h => e h.symm
      simp [e, e']
  · have h2 : xs.findIdx (fun g => decide (toldT M g L = t)) < xs.length := by
      rw [List.findIdx_lt_length]
      obtain ⟨g, hg, e⟩ := List.any_eq_true.1 h
      exact ⟨g, hg, e⟩
    rw [if_pos h2]
    by_cases e : t = toldT M f L <;> simp [e]
theorem firstI_self (M : Mask) (L : List (List Int)) (A : List Flt) (k : Nat) (hk : k < A.length) : (firstI M L (A.take (k + 1)) (toldT M A[k] L)).getD 0 = (idxR M L A A[k] : Nat) := by
  rw [← idxR_take hk]
  unfold firstI idxR
  have hp : (fun g => decide (toldT M g L = toldT M A[k] L)) = (fun g => sameR M L A[k] g) := by
    funext g
    rw [Bool.eq_iff_iff, decide_eq_true_iff, toldT_iff]
    exact ⟨sameR_symm, sameR_symm⟩
  rw [hp, if_pos]
  · rfl
  · rw [List.any_eq_true]
    exact ⟨A[k], by rw [List.mem_take_iff_getElem]; exact ⟨k, by omega, rfl⟩, sameR_refl _ _ _⟩

def classTo (M : Mask) (L : List (List Int)) (k : Nat) : List Int := ((allF M).take k).map (fun f => (idxR M L (allF M) f : Int))
theorem classTo_succ (M : Mask) (L : List (List Int)) (k : Nat) (hk : k < (allF M).length) : classTo M L (k + 1) = classTo M L k ++ [(idxR M L (allF M) (allF M)[k] : Int)] := by
  unfold classTo; rw [List.take_succ_eq_append_getElem hk, List.map_append]; rfl
theorem classTo_all (M : Mask) (L : List (List Int)) : classTo M L (allF M).length = classF M L := by
  unfold classTo classF; rw [List.take_length]
theorem own_keep {S : Nat → Prop} {W W' : World} {base size n : Nat} {T : TypeId} {v : Value} {xs : List Value} (h : W.ownsRow base T size v n xs) (hk : Keep S W W') (h1 : ∀ k, base ≤ k → S k) : W'.ownsRow base T size v n xs := by
  refine ⟨h.1, ?_⟩
  rcases h.2 with hn | ⟨g, cap, cur, rfl, hbg, hgg, rest⟩
  · exact .inl hn
  · exact .inr ⟨g, cap, cur, rfl, hbg, (hk.block g (Array.getElem?_eq_some_iff.1 hgg).1 (h1 g hbg)).trans hgg, rest⟩
theorem own_below {W W' : World} {base size n : Nat} {T : TypeId} {v : Value} {xs : List Value} (h : W.ownsRow base T size v n xs) (hb : Below W.heap.size W W') : W'.ownsRow base T size v n xs :=
  own_keep (S := fun _ => True) h (Keep.of_below hb) (fun _ _ => trivial)
theorem keep_cut {S : Nat → Prop} {A B C : World} (h : Keep S A B) (h2 : Keep (fun q => S q ∧ q < A.heap.size) B C) : Keep S A C :=
  ⟨h2.os.trans h.os, h2.tape.trans h.tape, h2.output.trans h.output, Nat.le_trans h.size h2.size, fun i hi hs => (h2.block i (Nat.lt_of_lt_of_le hi h.size) ⟨hs, hi⟩).trans (h.block i hi hs)⟩
theorem wf_nat (k : Nat) (h : k ≤ 9223372036854775807) : (Lit.int .i64 (k : Int)).wf = true := by
  simp [Lit.wf, IntKind.min, IntKind.max, IntKind.signed, IntKind.bits]
  omega

set_option maxRecDepth 100000 in
set_option maxHeartbeats 4000000 in
theorem classes_c (w : World) (ht : Tab w) (a : Option Addr) (n cap : Nat) (M : Mask) (hn : M.length = n) (H : RowsAt w a M) (hM : okM M = true) (a2 : Option Addr) (n2 cap2 : Nat) (L : List (List Int)) (hn2 : L.length = n2) (hm2 : n2 ≤ 12) (H2 : RowsAt w a2 L) (hx : ∀ x ∈ L, okShown M x = true) :
    Calls Tryz.prog 48 #[.slice a n cap, .slice a2 n2 cap2] w fun e w' => ∃ v base, e = .returned v ∧ w.heap.size ≤ base ∧ w'.ownsRow base 3 1 v (allF M).length ((classF M L).map (Value.int .i64)) ∧ Below w.heap.size w w' := by
  have HAl := hid (fun (W : World) (hb : Below w.heap.size w W) => all_c W a n cap M hn (H.below hb) hM)
  have HTo := hid (fun (W : World) (hb : Below w.heap.size w W) (f : Flt) (hf : okF M f = true) => told_c W (ht.below hb) a n cap M hn (H.below hb) hM f hf a2 n2 cap2 L hn2 (by omega) (H2.below hb) hx)
  have HLen := hid (fun f => told_len hM f L)
  have HOk := hid (fun (f : Flt) (hf : f ∈ allF M) => all_ok hf)
  have hA240 := all_240 hM
  have HN2 := hid hn2
  have hmm := @run_makeMap Tryz.prog
  clear hn H hM hn2 H2 hx ht
  obtain ⟨b0, hb0⟩ : ∃ b0, b0 = w.heap.size := ⟨_, rfl⟩
  have hbm : Below w.heap.size w (w.alloc (.map #[] 0)) := (Below.refl _ _).alloc (Nat.le_refl _) _
  have HAl1 := hid (HAl.out (w.alloc (.map #[] 0)) hbm)
  have hmade : (w.alloc (.map #[] 0)).ownsMap Tryz.prog 9 (plainElem (H := Unit) Tryz.prog 3) b0 0 (.map []) := by rw [hb0]; exact World.ownsMap_made _ _ _ _
  have HMade := hid hmade
  have HB0 := hid hb0
  clear hmade hb0
  go_enter Tryz.func48, Tryz.ntmps48
  go_wp2_with (go_at_call 63; refine HAl1.out.mono ?_; rintro e w1 ⟨v0, base0, rfl, hbase0, hfo, hb1⟩; refine Stop.of ?_)
  refine Stop.go ?_
  obtain ⟨va, vc, rfl, hAm, _⟩ := hfo.reads
  obtain ⟨A, hA⟩ : ∃ A, A = allF M := ⟨_, rfl⟩
  rw [← hA] at hfo hA240 HOk
  rw [← hA]
  obtain ⟨N, hN⟩ : ∃ N, N = A.length := ⟨_, rfl⟩
  rw [← hN] at hA240
  rw [← hN]
  have HFO := hid hfo
  have HN := hid hN
  have HA := hid hA
  have hb01 : b0 < w1.heap.size := by have h1 := hb1.size; rw [World.size_alloc] at h1; have := HB0.out; omega
  have hbw1 : Below w.heap.size w w1 := hbm.trans (hb1.mono hbm.size)
  have hmap1 : w1.ownsMap Tryz.prog 9 (plainElem (H := Unit) Tryz.prog 3) b0 0 (.map []) := map_keep (S := fun _ => True) HMade.out (Keep.of_below hb1) trivial
  have HM1 := hid hmap1
  have hbase1 : b0 < base0 := by have := HB0.out; simp at hbase0; omega
  rw [← HB0.out]
  clear hfo hN hA hmap1 hAm hb1 hbm hbase0 HAl1 HAl hmm
  go_wp2
  go_loopw [6, 16] (fun v i wr => ∃ (k : Nat) (D : DataW Unit), k ≤ N ∧ i = .int .i64 k ∧ wr.ownsRow w1.heap.size 3 1 v k ((classTo M L k).map (Value.int .i64)) ∧ wr.ownsMap Tryz.prog 9 (plainElem (H := Unit) Tryz.prog 3) b0 k D ∧ Hid (MapSI D (firstI M L (A.take k))) ∧ Keep (fun q => q ≠ b0) w1 wr) (fun _ i _ => N - (intOf i).toNat)
  case atStart => exact ⟨0, .map [], Nat.zero_le _, rfl, World.ownsRow_nil _ _ _ _, HM1.out, hid MapSI.nil, Keep.refl _ _⟩
  case round =>
    obtain ⟨k, D, hk, rfl, hown, hmap, HD, hkp⟩ := hrel
    by_cases hlt : k < N
    · have hkA : k < A.length := by rw [← HN.out]; exact hlt
      obtain ⟨_, _, e0, _, hat⟩ := (HFO.out.keep hkp (fun q hq => by omega)).reads
      rw [← HN.out] at e0
      cases e0
      obtain ⟨b, off, rfl, hbs, k0, k1, k2⟩ := hat k hkA
      have hbwr : Below w.heap.size w wr := hkp.below hbw1 hbw1.size (fun q hq => by have := HB0.out; omega)
      have htc := classTo_succ M L k (by rw [← HA.out]; exact hkA)
      have hself := firstI_self M L A k hkA
      have hsn := firstI_snoc M L (A.take k) A[k]
      have htk : A.take (k + 1) = A.take k ++ [A[k]] := List.take_succ_eq_append_getElem hkA
      rw [← htk] at hsn
      have hkl : (A.take k).length = k := by rw [List.length_take]; omega
      rw [hkl] at hsn
      simp only [← HA.out] at htc
      have hok := HOk.out A[k] (List.getElem_mem hkA)
      have HT1 := HTo.out (wr.alloc (.cells (fltCells A[k]).toArray 25)) (hbwr.alloc hbwr.size _) A[k] hok
      have hlen := HLen.out A[k]
      obtain ⟨f, hf⟩ : ∃ f, f = A[k] := ⟨_, rfl⟩
      rw [← hf] at htc hself hsn hlen HT1 k0 k1 k2
      obtain ⟨I, hI⟩ : ∃ I : Int, I = (idxR M L A f : Nat) := ⟨_, rfl⟩
      rw [← hI] at htc hself
      obtain ⟨S, hS⟩ : ∃ S : ByteArray, S = ⟨(toldT M f L).toArray⟩ := ⟨_, rfl⟩
      have hSt : S.data.toList = toldT M f L := by rw [hS]
      have hSz : S.size ≤ maxLen := by rw [hS]; unfold maxLen; simp [ByteArray.size]; have := HN2.out; omega
      rw [← hS] at HT1
      rw [← hSt] at hself hsn
      have HTT := hid HT1
      obtain ⟨X, hX⟩ : ∃ X, X = firstI M L (A.take k) S.data.toList := ⟨_, rfl⟩
      have HSELF := hid hself
      have HSN := hid hsn
      have HTC := hid htc
      have HSZ := hid hSz
      have HX := hid hX
      have HMAP := hid hmap
      have HOWN := hid hown
      have HKP := hid hkp
      have HBWR := hid hbwr
      have M1 := hid (show k + 1 ≤ maxLen by unfold maxLen; omega)
      have M2 := hid (show (k + 1) * 8 ≤ 140737488355328 by omega)
      have M4 := hid (show k < maxLen by unfold maxLen; omega)
      have hsw := hkp.size
      have hb0r : b0 < wr.heap.size := by omega
      have hs0 : wr.heap.size = wr.heap.size := rfl
      clear hSt hS hI hf hlen hok hkl htk HT1 hself hsn htc hSz hX hmap hown hkp hbwr hat hkA hs0
      obtain ⟨kind, row, pixel⟩ := f
      simp only [Flt.val, fltCells] at HTT
      simp only [] at k0 k1 k2
      go_wp2_with (go_at_call 78; refine HTT.out.mono ?_; rintro e w3 ⟨rfl, hb3⟩; refine Stop.of ?_)
      refine Stop.go ?_
      have hb3' : Below wr.heap.size wr w3 := ((Below.refl _ wr).alloc (Nat.le_refl _) _).trans (hb3.mono (by simp))
      have HM3 := hid (map_keep (S := fun _ => True) HMAP.out (Keep.of_below hb3') trivial)
      have HO3 := hid (show w3.ownsRow w1.heap.size 3 1 u6 k ((classTo M L k).map (Value.int .i64)) from own_below HOWN.out hb3')
      have HB3 := hid hb3'
      have hs3 := hb3'.size
      clear hb3 hb3' k0 k1 k2
      go_wp2_with (at_lookup; refine wpList_lookup_si_ok _ rfl _ _ 99 rfl 9 3 Tryz.underlying9 Tryz.underlying99 Tryz.underlying3 (Tryz.zeroValue3 _) b0 _ D _ HD.out rfl HM3.out S rfl HSZ.out X HX.out ?_; refine Stop.of ?_)
      refine Stop.go ?_
      cases X with
      | none =>
        simp only [Option.getD_none, Option.isSome_none]
        have hD2 : MapSI (D.put (.string S.data.toList) (.lit (.int .i64 k))) (firstI M L (A.take (k + 1))) := by
          have h9 := HD.out.put S.data.toList (k : Int)
          have e : firstI M L (A.take (k + 1)) = fun t => if t = S.data.toList then some (k : Int) else firstI M L (A.take k) t := by
            funext t
            rw [HSN.out t]
            by_cases e : t = S.data.toList
            · subst e; rw [if_pos rfl, if_pos rfl, ← HX.out]; rfl
            · rw [if_neg e, if_neg e]
          rw [e]; exact h9
        have HD2 := hid hD2
        have hel : plainElem (H := Unit) Tryz.prog 3 (.int .i64 (k : Int)) = some (.lit (.int .i64 k), []) := plainElem_int Tryz.underlying3 (wf_nat k (by omega))
        have HEL := hid hel
        clear hD2 hel
        go_wp2_with (at_mapUpdate; refine wpList_mapUpdate_own _ rfl _ _ _ 99 rfl 9 3 (string_keyed Tryz.underlying9) Tryz.underlying99 _ b0 _ D rfl HM3.out M4.out _ _ _ rfl rfl (keyS Tryz.underlying9 HSZ.out) _ [] HEL.out ?_; refine Stop.of ?_)
        refine Stop.go ?_
        intro w5 hown5 hg5
        have hg5s := hg5.size
        have HM5 := hid hown5
        have hK5 : Keep (fun q => q ≠ b0) w3 w5 := (Keep.grown hg5).mono fun q hq e => hq (by simpa using e)
        have HO5 := hid (own_keep HO3.out hK5 (fun q hq => by omega))
        have HK5 := hid hK5
        clear hown5 hg5 hK5
        go_wp2_with (at_lookup; refine wpList_lookup_si_one _ rfl _ _ 99 rfl 9 3 Tryz.underlying9 Tryz.underlying99 Tryz.underlying3 (Tryz.zeroValue3 _) b0 _ _ _ HD2.out rfl HM5.out S rfl HSZ.out I HSELF.out ?_; refine Stop.of ?_)
        refine Stop.go ?_
        have M3 := hid (show w1.heap.size ≤ (w5.alloc (.cells #[.int .i64 I] 3)).heap.size by simp; omega)
        go_wp2_with (at_builtin; refine wpList_app _ rfl (.tmp 36) (.tmp 40) 27 rfl w1.heap.size 3 (.int .i64 0) 1 8 Tryz.underlying27 info_int rfl Nat.one_pos u6 k _ rfl (HO5.out.alloc _) (some ⟨w5.heap.size, 0, none⟩) 1 1 [.int .i64 I] rfl rfl no_none (one_news w5 _ _) (one_int _) M1.out M2.out M3.out ?_; refine Stop.of ?_)
        refine Stop.go ?_
        intro a7 c7 w7 own7 g7
        have hK7 : Keep (fun q => q < w1.heap.size) w5 w7 := (Keep.of_below ((Below.refl _ w5).alloc (Nat.le_refl _) _) : Keep (fun q => q < w1.heap.size) w5 (w5.alloc (.cells #[.int .i64 I] 3))).trans ((Keep.grown g7).mono fun q hq e => by have := (HO5.out.lt q e.symm).1; omega)
        have HM7 := map_keep HM5.out hK7 hb01
        have hKA : Keep (fun q => q ≠ b0 ∧ q < w1.heap.size) wr w7 := ((Keep.of_below HB3.out).trans (HK5.out.mono fun q hq => hq.1)).trans (hK7.mono fun q hq => hq.2)
        have hKB : Keep (fun q => q ≠ b0) w1 w7 := keep_cut HKP.out hKA
        go_wp2
        refine ⟨⟨k + 1, _, by omega, by go_num, ?_, HM7, HD2, hKB⟩, by simp [intOf]; omega⟩
        rw [HTC.out, List.map_append]
        exact own7
      | some i =>
        simp only [Option.getD_some, Option.isSome_some]
        have hD2 : MapSI D (firstI M L (A.take (k + 1))) := by
          have e : firstI M L (A.take (k + 1)) = firstI M L (A.take k) := by
            funext t
            rw [HSN.out t]
            by_cases e : t = S.data.toList
            · subst e; rw [if_pos rfl, ← HX.out]; rfl
            · rw [if_neg e]
          rw [e]; exact HD.out
        have HD2 := hid hD2
        clear hD2
        go_wp2_with (at_lookup; refine wpList_lookup_si_one _ rfl _ _ 99 rfl 9 3 Tryz.underlying9 Tryz.underlying99 Tryz.underlying3 (Tryz.zeroValue3 _) b0 _ D _ HD2.out rfl HM3.out S rfl HSZ.out I HSELF.out ?_; refine Stop.of ?_)
        refine Stop.go ?_
        have M3 := hid (show w1.heap.size ≤ (w3.alloc (.cells #[.int .i64 I] 3)).heap.size by simp; omega)
        go_wp2_with (at_builtin; refine wpList_app _ rfl (.tmp 36) (.tmp 40) 27 rfl w1.heap.size 3 (.int .i64 0) 1 8 Tryz.underlying27 info_int rfl Nat.one_pos u6 k _ rfl (HO3.out.alloc _) (some ⟨w3.heap.size, 0, none⟩) 1 1 [.int .i64 I] rfl rfl no_none (one_news w3 _ _) (one_int _) M1.out M2.out M3.out ?_; refine Stop.of ?_)
        refine Stop.go ?_
        intro a7 c7 w7 own7 g7
        have hK7 : Keep (fun q => q < w1.heap.size) w3 w7 := (Keep.of_below ((Below.refl _ w3).alloc (Nat.le_refl _) _) : Keep (fun q => q < w1.heap.size) w3 (w3.alloc (.cells #[.int .i64 I] 3))).trans ((Keep.grown g7).mono fun q hq e => by have := (HO3.out.lt q e.symm).1; omega)
        have HM7 := map_keep HM3.out hK7 hb01
        have hKA : Keep (fun q => q ≠ b0 ∧ q < w1.heap.size) wr w7 := (Keep.of_below HB3.out).trans (hK7.mono fun q hq => hq.2)
        have hKB : Keep (fun q => q ≠ b0) w1 w7 := keep_cut HKP.out hKA
        go_wp2
        refine ⟨⟨k + 1, _, by omega, by go_num, ?_, HM7.mono (by omega), HD2, hKB⟩, by simp [intOf]; omega⟩
        rw [HTC.out, List.map_append]
        exact own7
    · obtain rfl : k = N := by omega
      rw [HN.out, HA.out, classTo_all] at hown
      have HOW := hid hown
      have HBE := hid (hkp.below hbw1 hbw1.size (fun q hq => by have := HB0.out; omega))
      clear hown hmap hkp
      go_wp2
      go_ret
      refine ⟨u6, w1.heap.size, rfl, hbw1.size, ?_, HBE.out⟩
      exact HOW.out
end Go.Proofs.YthaampmdponhbaaGreatDoor

namespace Go.Proofs.YthaampmdponhbaaGreatDoor
open Go.RowKit Go.Maps
set_option linter.unusedVariables false

def maskE (M : Mask) : Int := if okM M = true then 0 else 1
def allL (M : Mask) : List Flt := if okM M = true then allF M else []
def enoughB (M : Mask) (L : List (List Int)) : Bool := decide (listedE M L = 0) && enoughF M L

theorem listedE_ok {M : Mask} {L : List (List Int)} (h : listedE M L = 0) : okM M = true ∧ picsB M L = true := by
  unfold listedE at h
  by_cases h1 : okM M = true
  · rw [if_pos h1] at h
    by_cases h2 : picsB M L = true
    · exact ⟨h1, h2⟩
    · rw [if_neg h2] at h; simp at h
  · rw [if_neg h1] at h; simp at h

theorem All_c (w : World) (a : Option Addr) (n cap : Nat) (M : Mask) (hn : M.length = n) (hm : n ≤ maxLen) (H : RowsAt w a M) :
    Calls Tryz.prog 30 #[.slice a n cap] w fun e w' => ∃ v base, e = .returned (.tuple #[v, .int .i64 (maskE M)]) ∧ w.heap.size ≤ base ∧ FltsO w' base v (allL M) ∧ Below w.heap.size w w' := by
  have HV := hid (maskValid_c w a n cap M hn hm H)
  cases h1 : okM M
  · rw [h1] at HV
    have HE := hid (show maskE M = 1 ∧ allL M = [] by unfold maskE allL; rw [h1]; simp)
    clear h1 hn H
    go_enter Tryz.func30, Tryz.ntmps30
    go_wp2_with (go_at_call 62; refine HV.out.mono ?_; rintro e w1 ⟨rfl, hb1⟩)
    go_ret2
    refine ⟨.slice none 0 0, w1.heap.size, by rw [HE.out.1]; rfl, hb1.size, ?_, hb1⟩
    rw [HE.out.2]
    exact FltsO.nil _ _
  · rw [h1] at HV
    have HE := hid (show maskE M = 0 ∧ allL M = allF M by unfold maskE allL; rw [h1]; simp)
    have HA := hid (fun (W : World) (hb : Below w.heap.size w W) => all_c W a n cap M hn (H.below hb) h1)
    clear h1 hn H
    go_enter Tryz.func30, Tryz.ntmps30
    go_wp2_with (first | (go_at_call 62; refine HV.out.mono ?_; rintro e w1 ⟨rfl, hb1⟩) | (go_at_call 63; refine (HA.out _ hb1).mono ?_; rintro e w2 ⟨v, base, rfl, hbase, hF, hb2⟩))
    go_ret2
    refine ⟨v, base, by rw [HE.out.1]; rfl, Nat.le_trans hb1.size hbase, ?_, chain hb1 hb2⟩
    rw [HE.out.2]
    exact hF

theorem enough_stop {M : Mask} {L : List (List Int)} {k : Nat} (hk : k < (allF M).length) (h : (classF M L)[k]? ≠ some (k : Int)) : enoughF M L = false := by
  unfold enoughF
  rw [decide_eq_false_iff_not]
  exact fun h9 => h (h9 k hk)
theorem enough_done {M : Mask} {L : List (List Int)} (h : ∀ k, k < (allF M).length → (classF M L)[k]? = some (k : Int)) : enoughF M L = true := by
  unfold enoughF
  rw [decide_eq_true_iff]
  exact h

set_option maxHeartbeats 800000 in
theorem Enough_c (w : World) (ht : Tab w) (a : Option Addr) (n cap : Nat) (M : Mask) (hn : M.length = n) (hm : n ≤ maxLen) (H : RowsAt w a M) (a2 : Option Addr) (n2 cap2 : Nat) (L : List (List Int)) (hn2 : L.length = n2) (hm2 : n2 ≤ maxLen) (H2 : RowsAt w a2 L) :
    Calls Tryz.prog 24 #[.slice a n cap, .slice a2 n2 cap2] w fun e w' => e = .returned (.tuple #[.bool (enoughB M L), .int .i64 (listedE M L)]) ∧ Below w.heap.size w w' := by
  have HV := hid (flisted_c w a n cap M hn hm H a2 n2 cap2 L hn2 hm2 H2)
  by_cases h1 : listedE M L = 0
  · obtain ⟨h2, h3⟩ := listedE_ok h1
    obtain ⟨h4, h5⟩ := picsB_iff h3
    have HA := hid (fun (W : World) (hb : Below w.heap.size w W) => classes_c W (ht.below hb) a n cap M hn (H.below hb) h2 a2 n2 cap2 L hn2 (by omega) (H2.below hb) h5)
    have HE := hid (show enoughB M L = enoughF M L by unfold enoughB; rw [h1]; simp)
    have hA240 := all_240 h2
    have HCL := hid (classF_length M L)
    have HS := hid (fun k => @enough_stop M L k)
    have HD := hid (@enough_done M L)
    rw [h1] at HV ⊢
    clear h1 h2 h3 h4 h5 hn H hn2 H2 ht
    go_enter Tryz.func24, Tryz.ntmps24
    go_wp2_with (first | (go_at_call 47; refine HV.out.mono ?_; rintro e w1 ⟨rfl, hb1⟩) | (go_at_call 48; refine (HA.out _ hb1).mono ?_; rintro e w2 ⟨v, base, rfl, hbase, hF, hb2⟩; refine Stop.of ?_))
    refine Stop.go ?_
    obtain ⟨va, vc, rfl, hI⟩ := ints_own hF HCL.out
    obtain ⟨N, hN⟩ : ∃ N, N = (allF M).length := ⟨_, rfl⟩
    rw [← hN] at hA240 HCL ⊢
    have HN := hid hN
    have HI := hid hI
    have HB := hid (chain hb1 hb2)
    clear hN hI hF hb1 hb2 hbase
    go_wp2
    go_loop [19] (fun i => ∃ k : Nat, k ≤ N ∧ i = .int .i64 k ∧ Hid (∀ j, j < k → (classF M L)[j]? = some (j : Int))) (fun i => N - (intOf i).toNat)
    case atStart => exact ⟨0, Nat.zero_le _, rfl, hid (fun j hj => by omega)⟩
    case round =>
      obtain ⟨k, hk, rfl, hS⟩ := hrel
      by_cases hlt : k < N
      · obtain ⟨b, off, rfl, hbs, hc⟩ := HI.out k (by rw [HCL.out]; exact hlt)
        obtain ⟨X, hX⟩ : ∃ X, X = (classF M L)[k]?.getD 0 := ⟨_, rfl⟩
        rw [← hX] at hc
        have hget : (classF M L)[k]? = some X := by rw [hX]; exact getD_lt (by rw [HCL.out]; exact hlt)
        have HG := hid hget
        clear hX hget
        by_cases e : X = (k : Int)
        · subst e
          go_wp2
          go_round
          case rel => exact ⟨k + 1, by omega, by go_num, hid (fun j hj => by
            rcases Nat.lt_or_ge j k with h | h
            · exact hS.out j h
            · obtain rfl : j = k := by omega
              exact HG.out)⟩
          case measure => simp [intOf]; omega
        · have e2 : (X != (k : Int)) = true := by simpa using e
          have HQ := hid e
          clear e
          go_wp2
          go_ret2
          refine ⟨?_, HB.out⟩
          rw [HE.out, HS.out k (by rw [← HN.out]; exact hlt) (by rw [HG.out]; intro h; exact HQ.out (by simpa using h))]
          rfl
      · obtain rfl : k = N := by omega
        go_wp2
        go_ret2
        refine ⟨?_, HB.out⟩
        rw [HE.out, HD.out (fun j hj => hS.out j (by rw [HN.out]; exact hj))]
        rfl
  · have HE := hid (show enoughB M L = false by unfold enoughB; simp [h1])
    obtain ⟨E, hE⟩ : ∃ E, E = listedE M L := ⟨_, rfl⟩
    rw [← hE] at HV ⊢ h1
    have h6 : (E != 0) = true := by simpa using h1
    clear h1 hE hn H hn2 H2 ht
    go_enter Tryz.func24, Tryz.ntmps24
    go_wp2_with (go_at_call 47; refine HV.out.mono ?_; rintro e w1 ⟨rfl, hb1⟩)
    go_ret2
    exact ⟨by rw [HE.out]; rfl, hb1⟩
end Go.Proofs.YthaampmdponhbaaGreatDoor

namespace Go.Proofs.YthaampmdponhbaaGreatDoor
open Go.RowKit Go.Maps
set_option linter.unusedVariables false

theorem lit_ints (W : World) (l : List Int) (T : TypeId) : IntsAt (W.alloc (.cells (l.map (Value.int .i64)).toArray T)) (some ⟨W.heap.size, 0, none⟩) l := by
  intro j hj
  refine ⟨W.heap.size, 0, rfl, by simp, ?_⟩
  rw [World.cell?_alloc_at _ _ _ _ rfl]
  simp [List.getElem?_eq_getElem hj]
theorem lit_rows1 (W : World) (ra : Option Addr) (n cap : Nat) (l : List Int) (hn : l.length = n) (hm : n ≤ maxLen) (h : IntsAt W ra l) (T : TypeId) : RowsAt (W.alloc (.cells #[.slice ra n cap] T)) (some ⟨W.heap.size, 0, none⟩) [l] := by
  have hb : Below W.heap.size W (W.alloc (.cells #[.slice ra n cap] T)) := (Below.refl _ _).alloc (Nat.le_refl _) _
  intro j hj
  obtain rfl : j = 0 := by simp at hj; omega
  refine ⟨W.heap.size, 0, ra, n, cap, rfl, by simp, ?_, hn, hm, h.below hb⟩
  rw [World.cell?_alloc_at _ _ _ _ rfl]; rfl

def fitM (M : Mask) : Bool := M.all (fun r => decide (r.length ≤ 20)) && decide (M.length ≤ 8)

theorem fit_c (w : World) (a : Option Addr) (n cap : Nat) (M : Mask) (hn : M.length = n) (hm : n ≤ maxLen) (H : RowsAt w a M) :
    Calls Tryz.prog 6 #[.slice a n cap] w fun e w' => e = .returned (.bool (fitM M)) ∧ w = w' := by
  have HN := hid hn
  have HH := hid H
  clear hn H
  unfold maxLen at hm
  go_enter Tryz.func6, Tryz.ntmps6
  go_wp2
  go_loop [7] (fun i => ∃ k : Nat, k ≤ n ∧ i = .int .i64 k ∧ Hid (∀ j (hj : j < M.length), j < k → M[j].length ≤ 20)) (fun i => n - (intOf i).toNat)
  case atStart => exact ⟨0, Nat.zero_le _, rfl, hid (fun j _ h => by omega)⟩
  case round =>
    obtain ⟨k, hk, rfl, hS⟩ := hrel
    by_cases hlt : k < n
    · have hkM : k < M.length := by rw [HN.out]; exact hlt
      obtain ⟨b, off, ra, rn, rc, rfl, hbs, hc, hrn, hrm, hri⟩ := HH.out k hkM
      have HRN := hid hrn
      unfold maxLen at hrm
      clear hri hrn
      by_cases h20 : rn ≤ 20
      · go_wp2
        go_round
        case rel => exact ⟨k + 1, by omega, by go_num, hid (fun j hj hjk => by
          rcases Nat.lt_or_ge j k with h | h
          · exact hS.out j hj h
          · obtain rfl : j = k := by omega
            rw [HRN.out]; exact h20)⟩
        case measure => simp [intOf]; omega
      · go_wp2
        go_ret
        refine ⟨ret_bool ?_, rfl⟩
        symm
        unfold fitM
        rw [Bool.and_eq_false_iff]
        left
        rw [List.all_eq_false]
        exact ⟨M[k], List.getElem_mem _, by have := HRN.out; simp; omega⟩
    · obtain rfl : k = n := by omega
      go_wp2
      go_ret
      refine ⟨ret_bool ?_, rfl⟩
      unfold fitM
      have h1 : M.all (fun r => decide (r.length ≤ 20)) = true := by
        rw [List.all_eq_true]
        intro r hr
        obtain ⟨j, hj, rfl⟩ := List.mem_iff_getElem.1 hr
        have := hS.out j hj (by have := HN.out; omega)
        simpa using this
      rw [h1, HN.out, Bool.true_and]
      simp; omega

theorem awake_vals : maskE [[1, -1]] = 0 ∧ (allL [[1, -1]]).length = 6 ∧ listedE [[1, -1]] [[1, 2]] = 0 ∧ enoughB [[1, -1]] [[1, 2]] = true := by decide +kernel

theorem awake_enough (W : World) (ht : Tab W) (a : Option Addr) (hR : RowsAt W a [[1, -1]]) :
    Calls Tryz.prog 24 #[.slice a 1 1, .slice (some ⟨W.heap.size + 1, 0, none⟩) 1 1] ((W.alloc (.cells #[.int .i64 1, .int .i64 2] 3)).alloc (.cells #[.slice (some ⟨W.heap.size, 0, none⟩) 2 2] 27))
      fun e w' => e = .returned (.tuple #[.bool true, .int .i64 0]) ∧ Below ((W.alloc (.cells #[.int .i64 1, .int .i64 2] 3)).alloc (.cells #[.slice (some ⟨W.heap.size, 0, none⟩) 2 2] 27)).heap.size ((W.alloc (.cells #[.int .i64 1, .int .i64 2] 3)).alloc (.cells #[.slice (some ⟨W.heap.size, 0, none⟩) 2 2] 27)) w' := by
  obtain ⟨_, _, c3, c4⟩ := awake_vals
  obtain ⟨wa, hwa⟩ : ∃ wa, wa = (W.alloc (.cells #[.int .i64 1, .int .i64 2] 3)).alloc (.cells #[.slice (some ⟨W.heap.size, 0, none⟩) 2 2] 27) := ⟨_, rfl⟩
  have hba : Below W.heap.size W wa := by rw [hwa]; exact ((Below.refl _ _).alloc (Nat.le_refl _) _).alloc (by simp) _
  have hL : RowsAt wa (some ⟨W.heap.size + 1, 0, none⟩) [[1, 2]] := by
    have := lit_rows1 (W.alloc (.cells #[.int .i64 1, .int .i64 2] 3)) (some ⟨W.heap.size, 0, none⟩) 2 2 [1, 2] rfl (by decide) (lit_ints W [1, 2] 3) 27
    rw [World.size_alloc] at this
    rw [hwa]; exact this
  rw [← hwa]
  have h := Enough_c wa (ht.below hba) a 1 1 [[1, -1]] rfl (by decide) (hR.below hba) (some ⟨W.heap.size + 1, 0, none⟩) 1 1 [[1, 2]] rfl (by decide) hL
  rw [c3, c4] at h
  exact h

set_option maxRecDepth 100000 in
theorem awake_c (w : World) (ht : Tab w) : Calls Tryz.prog 8 #[] w fun e w' => e = .returned (.bool true) ∧ Below w.heap.size w w' := by
  obtain ⟨c1, c2, _, _⟩ := awake_vals
  obtain ⟨wa, hwa⟩ : ∃ wa, wa = (w.alloc (.cells #[.int .i64 1, .int .i64 (-1)] 3)).alloc (.cells #[.slice (some ⟨w.heap.size, 0, none⟩) 2 2] 27) := ⟨_, rfl⟩
  have hba : Below w.heap.size w wa := by rw [hwa]; exact ((Below.refl _ _).alloc (Nat.le_refl _) _).alloc (by simp) _
  have hR : RowsAt wa (some ⟨w.heap.size + 1, 0, none⟩) [[1, -1]] := by
    have := lit_rows1 (w.alloc (.cells #[.int .i64 1, .int .i64 (-1)] 3)) (some ⟨w.heap.size, 0, none⟩) 2 2 [1, -1] rfl (by decide) (lit_ints w [1, -1] 3) 27
    rw [World.size_alloc] at this
    rw [hwa]; exact this
  have HA := hid (All_c wa (some ⟨w.heap.size + 1, 0, none⟩) 1 1 [[1, -1]] rfl (by decide) hR)
  have HQ := hid (fun (W : World) (hb : Below wa.heap.size wa W) => awake_enough W (ht.below (chain hba hb)) (some ⟨w.heap.size + 1, 0, none⟩) (hR.below hb))
  rw [c1] at HA
  have C2 := hid c2
  clear c1 c2 hR
  go_enter Tryz.func8, Tryz.ntmps8
  go_wp2_with fail
  rw [← hwa]
  clear hwa
  go_wp2_with (go_at_call 30; refine HA.out.mono ?_; rintro e w1 ⟨v, base, rfl, hbase, hF, hb1⟩; refine Stop.of ?_)
  refine Stop.go ?_
  obtain ⟨va, vc, rfl, _, _⟩ := hF.reads
  rw [C2.out]
  have HB := hid (chain hba hb1)
  have HQ1 := hid (HQ.out w1 hb1)
  clear hF hbase hb1 HQ
  go_wp2_with (go_at_call 24; refine HQ1.out.mono ?_; rintro e w2 ⟨rfl, hb2⟩)
  go_ret
  refine ⟨rfl, ?_⟩
  exact chain (((HB.out.alloc HB.out.size _).alloc (by have := HB.out.size; simp; omega) _)) hb2
end Go.Proofs.YthaampmdponhbaaGreatDoor

namespace Go.Proofs.YthaampmdponhbaaGreatDoor
open Go.RowKit
set_option linter.unusedVariables false

theorem refOkF_c (w : World) (a : Option Addr) (n cap : Nat) (M : Mask) (hn : M.length = n) (hm : n ≤ maxLen) (H : RowsAt w a M) (hM : okM M = true) (f : Flt) :
    Calls Tryz.prog 34 #[.slice a n cap, f.val] w fun e w' => e = .returned (.bool (okF M f)) ∧ Below w.heap.size w w' := by
  obtain ⟨m1, m6, c1, c10, hrows⟩ := okM_len hM
  obtain ⟨kind, row, pixel⟩ := f
  unfold Flt.val
  simp only []
  have hb0 : Below w.heap.size w (w.alloc (.cells #[.int .i64 kind, .int .i64 row, .int .i64 pixel] 25)) := (Below.refl _ _).alloc (Nat.le_refl _) _
  obtain ⟨wf, hwf⟩ : ∃ wf, wf = w.alloc (.cells #[.int .i64 kind, .int .i64 row, .int .i64 pixel] 25) := ⟨_, rfl⟩
  have hf0 : wf.cell? ⟨w.heap.size, 0, none⟩ = some (.int .i64 kind) := by rw [hwf, World.cell?_alloc_at _ _ _ _ rfl]; rfl
  have hf1 : wf.cell? ⟨w.heap.size, 1, none⟩ = some (.int .i64 row) := by rw [hwf, World.cell?_alloc_at _ _ _ _ rfl]; rfl
  have hf2 : wf.cell? ⟨w.heap.size, 2, none⟩ = some (.int .i64 pixel) := by rw [hwf, World.cell?_alloc_at _ _ _ _ rfl]; rfl
  rw [← hwf] at hb0
  obtain ⟨b, off, qa, qn, qc, rfl, hbs, hq0, hqn, hqm, hqi⟩ := (H.below hb0) 0 (by omega)
  simp only [Nat.add_zero] at hq0
  have HCols : colsM M = qn := by unfold colsM; rw [List.getElem?_eq_getElem (by omega), ← hqn]; rfl
  rw [HCols] at c1 c10
  have HH := hid (H.below hb0)
  have HN := hid hn
  have HR := hid hrows
  have HB := hid hb0
  have HV := hid (r2Valid_c wf (some ⟨b, off, none⟩) n cap M hn hm (H.below hb0))
  rw [hM] at HV
  have hn6 : n ≤ 6 := by omega
  have hn1 : 1 ≤ n := by omega
  obtain ⟨br, hbr⟩ : ∃ br, br = inB row 0 ((n : Int) - 1) := ⟨_, rfl⟩
  obtain ⟨bp, hbp⟩ : ∃ bp, bp = inB pixel 0 ((qn : Int) - 1) := ⟨_, rfl⟩
  have hokF : okF M ⟨kind, row, pixel⟩ = (if kind = 0 then decide (row = 0) && decide (pixel = 0) else if kind = 1 then br && decide (pixel = 0) else if kind = 2 then bp && decide (row = 0) else if kind = 3 then br && bp && !decide (atM M row pixel = 0) else false) := by
    unfold okF; rw [HCols, hn, hbr, hbp]
  rw [hokF]
  have HCO := hid HCols
  have HBR := hid hbr
  have HBP := hid hbp
  clear hokF HCols hn H hrows hqn hqi hb0 hM m1 m6 hbr hbp
  have hn' : (1:Int) ≤ n := by omega
  have HW := hid (fun nq => show Below w.heap.size w (wf.drewN nq) from below_drewN HB.out nq)
  by_cases k0 : kind = 0
  · subst k0
    go_enter Tryz.func34, Tryz.ntmps34
    go_wp2_with fail
    rw [← hwf]
    clear hwf
    go_wp2_with (go_at_call 69; refine HV.out.mono ?_; rintro e w1 ⟨rfl, rfl⟩)
    go_quiet (first | (go_at_call 70; exact Calls.quiet_of_same ((r9in_c _ _ _ _).mono fun _ _ h => ⟨h.1, h.2.symm⟩)))
    rw [← HBR.out, ← HBP.out]
    go_wp2
    all_goals
      go_ret
      exact ⟨ret_bool (by first | rfl | simp [*] | simp_all), HW.out _⟩
  · by_cases k1 : kind = 1
    · subst k1
      rw [if_neg (by decide), if_pos rfl]
      cases br
      · go_enter Tryz.func34, Tryz.ntmps34
        go_wp2_with fail
        rw [← hwf]
        clear hwf
        go_wp2_with (go_at_call 69; refine HV.out.mono ?_; rintro e w1 ⟨rfl, rfl⟩)
        go_quiet (first | (go_at_call 70; exact Calls.quiet_of_same ((r9in_c _ _ _ _).mono fun _ _ h => ⟨h.1, h.2.symm⟩)))
        rw [← HBR.out, ← HBP.out]
        go_wp2
        go_ret
        exact ⟨rfl, HW.out _⟩
      · go_enter Tryz.func34, Tryz.ntmps34
        go_wp2_with fail
        rw [← hwf]
        clear hwf
        go_wp2_with (go_at_call 69; refine HV.out.mono ?_; rintro e w1 ⟨rfl, rfl⟩)
        go_quiet (first | (go_at_call 70; exact Calls.quiet_of_same ((r9in_c _ _ _ _).mono fun _ _ h => ⟨h.1, h.2.symm⟩)))
        rw [← HBR.out, ← HBP.out]
        go_wp2
        go_ret
        exact ⟨ret_bool (by rw [Bool.eq_iff_iff]; simp), HW.out _⟩
    · by_cases k2 : kind = 2
      · subst k2
        rw [if_neg (by decide), if_neg (by decide), if_pos rfl]
        cases bp
        · go_enter Tryz.func34, Tryz.ntmps34
          go_wp2_with fail
          rw [← hwf]
          clear hwf
          go_wp2_with (go_at_call 69; refine HV.out.mono ?_; rintro e w1 ⟨rfl, rfl⟩)
          go_quiet (first | (go_at_call 70; exact Calls.quiet_of_same ((r9in_c _ _ _ _).mono fun _ _ h => ⟨h.1, h.2.symm⟩)))
          rw [← HBR.out, ← HBP.out]
          go_wp2
          go_ret
          exact ⟨rfl, HW.out _⟩
        · go_enter Tryz.func34, Tryz.ntmps34
          go_wp2_with fail
          rw [← hwf]
          clear hwf
          go_wp2_with (go_at_call 69; refine HV.out.mono ?_; rintro e w1 ⟨rfl, rfl⟩)
          go_quiet (first | (go_at_call 70; exact Calls.quiet_of_same ((r9in_c _ _ _ _).mono fun _ _ h => ⟨h.1, h.2.symm⟩)))
          rw [← HBR.out, ← HBP.out]
          go_wp2
          go_ret
          exact ⟨ret_bool (by rw [Bool.eq_iff_iff]; simp), HW.out _⟩
      · by_cases k3 : kind = 3
        · subst k3
          rw [if_neg (by decide), if_neg (by decide), if_neg (by decide), if_pos rfl]
          cases br
          · go_enter Tryz.func34, Tryz.ntmps34
            go_wp2_with fail
            rw [← hwf]
            clear hwf
            go_wp2_with (go_at_call 69; refine HV.out.mono ?_; rintro e w1 ⟨rfl, rfl⟩)
            go_quiet (first | (go_at_call 70; exact Calls.quiet_of_same ((r9in_c _ _ _ _).mono fun _ _ h => ⟨h.1, h.2.symm⟩)))
            rw [← HBR.out, ← HBP.out]
            go_wp2
            go_quiet (fail)
            go_wp2
            go_ret
            exact ⟨rfl, below_drewN (HW.out _) _⟩
          · cases bp
            · go_enter Tryz.func34, Tryz.ntmps34
              go_wp2_with fail
              rw [← hwf]
              clear hwf
              go_wp2_with (go_at_call 69; refine HV.out.mono ?_; rintro e w1 ⟨rfl, rfl⟩)
              go_quiet (first | (go_at_call 70; exact Calls.quiet_of_same ((r9in_c _ _ _ _).mono fun _ _ h => ⟨h.1, h.2.symm⟩)))
              rw [← HBR.out, ← HBP.out]
              go_wp2
              go_quiet (fail)
              go_wp2
              go_ret
              exact ⟨rfl, below_drewN (HW.out _) _⟩
            · obtain ⟨i, rfl⟩ : ∃ i : Nat, row = i := ⟨row.toNat, by have := HBR.out.symm; unfold inB at this; simp at this; omega⟩
              obtain ⟨j, rfl⟩ : ∃ j : Nat, pixel = j := ⟨pixel.toNat, by have := HBP.out.symm; unfold inB at this; simp at this; omega⟩
              have hi : i < n := by have := HBR.out.symm; unfold inB at this; simp at this; omega
              have hj : j < qn := by have := HBP.out.symm; unfold inB at this; simp at this; omega
              have hiM : i < M.length := by rw [HN.out]; exact hi
              obtain ⟨b1, off1, ra, rn, rc, e1, hbs1, hri0, hrn, hrm, hrI⟩ := HH.out i hiM
              cases e1
              have hrl := (HR.out M[i] (List.getElem_mem hiM)).1
              have hjr : j < M[i].length := by rw [hrl, HCO.out]; exact hj
              obtain ⟨b2, off2, rfl, hbs2, hc2⟩ := hrI j hjr
              have hat : atM M i j = M[i][j]?.getD 0 := by unfold atM; simp [List.getElem?_eq_getElem hiM]
              have hjn : j < rn := by omega
              obtain ⟨V, hV⟩ : ∃ V, V = M[i][j]?.getD 0 := ⟨_, rfl⟩
              rw [← hV] at hat hc2
              rw [hat]
              have HCQ := hid hc2
              have hj2 : (j : Int) < qn := by omega
              clear hat hV hjr hrl hrI hrn hiM
              go_enter Tryz.func34, Tryz.ntmps34
              go_wp2_with fail
              rw [← hwf]
              clear hwf
              go_wp2_with (go_at_call 69; refine HV.out.mono ?_; rintro e w1 ⟨rfl, rfl⟩)
              go_quiet (first | (go_at_call 70; exact Calls.quiet_of_same ((r9in_c _ _ _ _).mono fun _ _ h => ⟨h.1, h.2.symm⟩)))
              rw [← HBR.out, ← HBP.out]
              go_wp2
              go_quiet (fail)
              go_wp2
              go_ret
              exact ⟨ret_bool (by rw [Bool.eq_iff_iff]; simp), below_drewN (HW.out _) _⟩
        · rw [if_neg k0, if_neg k1, if_neg k2, if_neg k3]
          have e0 : (kind == 0) = false := by simpa using k0
          have e1 : (kind == 1) = false := by simpa using k1
          have e2 : (kind == 2) = false := by simpa using k2
          have e3 : (kind == 3) = false := by simpa using k3
          clear k0 k1 k2 k3
          go_enter Tryz.func34, Tryz.ntmps34
          go_wp2_with fail
          rw [← hwf]
          clear hwf
          go_wp2_with (go_at_call 69; refine HV.out.mono ?_; rintro e w1 ⟨rfl, rfl⟩)
          go_quiet (first | (go_at_call 70; exact Calls.quiet_of_same ((r9in_c _ _ _ _).mono fun _ _ h => ⟨h.1, h.2.symm⟩)))
          rw [← HBR.out, ← HBP.out]
          go_wp2
          go_ret
          exact ⟨rfl, HW.out _⟩

theorem refFValid_c (w : World) (a : Option Addr) (n cap : Nat) (M : Mask) (hn : M.length = n) (hm : n ≤ maxLen) (H : RowsAt w a M) (f : Flt) :
    Calls Tryz.prog 34 #[.slice a n cap, f.val] w fun e w' => e = .returned (.bool (validF M f)) ∧ Below w.heap.size w w' := by
  cases hv : okM M
  · obtain ⟨wf, hwf, hb0, hcells⟩ := fltBox w f
    have HV := hid (r2Valid_c wf a n cap M hn hm (H.below hb0))
    rw [hv] at HV
    have HE := hid hv
    clear hn H hcells hv
    obtain ⟨kind, row, pixel⟩ := f
    unfold Flt.val
    simp only [] at hwf ⊢
    go_enter Tryz.func34, Tryz.ntmps34
    go_wp2_with fail
    rw [← hwf]
    clear hwf
    go_wp2_with (go_at_call 69; refine HV.out.mono ?_; rintro e w1 ⟨rfl, rfl⟩)
    go_ret
    exact ⟨ret_bool (by unfold validF; rw [HE.out]; rfl), hb0⟩
  · refine (refOkF_c w a n cap M hn hm H hv f).mono fun e w' ⟨h1, h2⟩ => ⟨?_, h2⟩
    unfold validF; rw [hv]; exact h1

def fEl (f : Flt) (i j : Nat) (n : Int) : Int :=
  bif ((f.kind == 1) && ((i : Int) == f.row)) || ((f.kind == 2) && ((j : Int) == f.pixel)) then 0 else bif (f.kind == 3) && ((i : Int) == f.row) && ((j : Int) == f.pixel) then -n else n
def fRow (f : Flt) (i : Nat) (r : List Int) : List Int := r.mapIdx (fEl f i)
def refFl (M : Mask) (f : Flt) : Mask := M.mapIdx (fRow f)

theorem fEl_cases (f : Flt) (i j : Nat) (n : Int) :
    ((f.kind == 1) = true ∧ True ∧ True ∧ ((i : Int) == f.row) = true ∧ True ∧ fEl f i j n = 0) ∨
    ((f.kind == 1) = true ∧ (f.kind == 2) = false ∧ (f.kind == 3) = false ∧ ((i : Int) == f.row) = false ∧ True ∧ fEl f i j n = n) ∨
    ((f.kind == 1) = false ∧ (f.kind == 2) = true ∧ True ∧ True ∧ ((j : Int) == f.pixel) = true ∧ fEl f i j n = 0) ∨
    ((f.kind == 1) = false ∧ (f.kind == 2) = true ∧ (f.kind == 3) = false ∧ True ∧ ((j : Int) == f.pixel) = false ∧ fEl f i j n = n) ∨
    ((f.kind == 1) = false ∧ (f.kind == 2) = false ∧ (f.kind == 3) = true ∧ ((i : Int) == f.row) = true ∧ ((j : Int) == f.pixel) = true ∧ fEl f i j n = -n) ∨
    ((f.kind == 1) = false ∧ (f.kind == 2) = false ∧ (f.kind == 3) = true ∧ ((i : Int) == f.row) = true ∧ ((j : Int) == f.pixel) = false ∧ fEl f i j n = n) ∨
    ((f.kind == 1) = false ∧ (f.kind == 2) = false ∧ (f.kind == 3) = true ∧ ((i : Int) == f.row) = false ∧ True ∧ fEl f i j n = n) ∨
    ((f.kind == 1) = false ∧ (f.kind == 2) = false ∧ (f.kind == 3) = false ∧ True ∧ True ∧ fEl f i j n = n) := by
  unfold fEl
  have h12 : (f.kind == 1) = true → (f.kind == 2) = false ∧ (f.kind == 3) = false := by intro h; simp at h; simp [h]
  have h23 : (f.kind == 2) = true → (f.kind == 3) = false := by intro h; simp at h; simp [h]
  revert h12 h23
  cases (f.kind == 1) <;> cases (f.kind == 2) <;> cases (f.kind == 3) <;> cases ((i : Int) == f.row) <;> cases ((j : Int) == f.pixel) <;> simp

theorem refFl_eq {M : Mask} {f : Flt} (hM : okM M = true) (hf : okF M f = true) : refFl M f = faultyM M f := by
  obtain ⟨m1, m6, c1, c10, hrows⟩ := okM_len hM
  obtain ⟨kind, row, pixel⟩ := f
  rcases okF_cases hf hM with ⟨rfl, rfl, rfl⟩ | ⟨rfl, i0, rfl, hi0, rfl⟩ | ⟨rfl, j0, rfl, hj0, rfl⟩ | ⟨rfl, i0, j0, rfl, rfl, hi0, hj0, _⟩
  · have e : faultyM M ⟨0, 0, 0⟩ = M := by simp [faultyM]
    rw [e]
    apply List.ext_getElem (by simp [refFl])
    intro i h1 h2
    simp only [refFl, List.getElem_mapIdx]
    apply List.ext_getElem (by simp [fRow])
    intro j h3 h4
    simp [fRow, fEl]
  · have e : faultyM M ⟨1, (i0 : Int), 0⟩ = M.set i0 (List.replicate (M[i0]?.getD []).length 0) := by simp [faultyM, deadM]
    rw [e]
    apply List.ext_getElem (by simp [refFl])
    intro i h1 h2
    simp only [refFl, List.getElem_mapIdx]
    rw [List.getElem_set]
    by_cases e : i0 = i
    · subst e
      rw [if_pos rfl]
      apply List.ext_getElem (by simp [fRow, List.getElem?_eq_getElem hi0])
      intro j h3 h4
      simp [fRow, fEl]
    · rw [if_neg e]
      apply List.ext_getElem (by simp [fRow])
      intro j h3 h4
      have : ((i : Int) == (i0 : Int)) = false := by simp; omega
      simp [fRow, fEl, this]
  · have e : faultyM M ⟨2, 0, (j0 : Int)⟩ = M.map (fun r => r.set j0 0) := by simp [faultyM, darkM]
    rw [e]
    apply List.ext_getElem (by simp [refFl])
    intro i h1 h2
    simp only [refFl, List.getElem_mapIdx, List.getElem_map]
    apply List.ext_getElem (by simp [fRow])
    intro j h3 h4
    rw [List.getElem_set]
    by_cases e : j0 = j
    · subst e; simp [fRow, fEl]
    · have : ((j : Int) == (j0 : Int)) = false := by simp; omega
      simp [fRow, fEl, this, e]
  · have e : faultyM M ⟨3, (i0 : Int), (j0 : Int)⟩ = M.set i0 ((M[i0]?.getD []).set j0 (-((M[i0]?.getD [])[j0]?.getD 0))) := by simp [faultyM, turnM]
    rw [e]
    apply List.ext_getElem (by simp [refFl])
    intro i h1 h2
    have hi : i < M.length := by simpa [refFl] using h1
    have hl := (hrows M[i] (List.getElem_mem hi)).1
    simp only [refFl, List.getElem_mapIdx]
    rw [List.getElem_set]
    by_cases e : i0 = i
    · subst e
      rw [if_pos rfl]
      apply List.ext_getElem (by simp [fRow, List.getElem?_eq_getElem hi])
      intro j h3 h4
      simp only [List.getElem?_eq_getElem hi, Option.getD_some, List.getElem_set]
      by_cases e2 : j0 = j
      · subst e2
        have : j0 < M[i0].length := by omega
        simp [fRow, fEl, this]
      · have : ((j : Int) == (j0 : Int)) = false := by simp; omega
        simp [fRow, fEl, this, e2]
    · rw [if_neg e]
      apply List.ext_getElem (by simp [fRow])
      intro j h3 h4
      have : ((i : Int) == (i0 : Int)) = false := by simp; omega
      simp [fRow, fEl, this]

theorem fRow_take (f : Flt) (i k : Nat) (r : List Int) (hk : k < r.length) : (fRow f i r).take (k + 1) = (fRow f i r).take k ++ [fEl f i k r[k]] := by
  rw [List.take_succ_eq_append_getElem (by simpa [fRow] using hk)]
  simp [fRow]
theorem refFl_take (f : Flt) (M : Mask) (k : Nat) (hk : k < M.length) : (refFl M f).take (k + 1) = (refFl M f).take k ++ [fRow f k M[k]] := by
  rw [List.take_succ_eq_append_getElem (by simpa [refFl] using hk)]
  simp [refFl]
end Go.Proofs.YthaampmdponhbaaGreatDoor

namespace Go.Proofs.YthaampmdponhbaaGreatDoor
open Go.RowKit
set_option linter.unusedVariables false

theorem oneI (x : Int) : ∀ u ∈ [Value.int .i64 x], u.oneCell' = true := by intro u hu; simp at hu; subst hu; rfl
theorem snoc_int {l l2 : List Int} {x : Int} (h : l2 = l ++ [x]) : l2.map (Value.int .i64) = l.map (Value.int .i64) ++ [.int .i64 x] := by rw [h]; simp

set_option maxHeartbeats 4000000 in
set_option maxRecDepth 100000 in
theorem refFaulty_c (w : World) (a : Option Addr) (n cap : Nat) (M : Mask) (hn : M.length = n) (H : RowsAt w a M) (hM : okM M = true) (f : Flt) :
    Calls Tryz.prog 81 #[.slice a n cap, f.val] w fun e w' => ∃ v base, e = .returned v ∧ w.heap.size ≤ base ∧ RowsO 3 27 w' base (fun _ => True) v (refFl M f) ∧ Below w.heap.size w w' := by
  obtain ⟨m1, m6, c1, c10, hrows⟩ := okM_len hM
  obtain ⟨wf, hwf, hb0, hcells⟩ := fltBox w f
  have HH := hid H
  have HN := hid hn
  have HR := hid hrows
  have HC := hid hcells
  have HB0 := hid hb0
  have HFC := hid (fEl_cases f)
  have hs0 := hb0.size
  have hn6 : n ≤ 6 := by omega
  clear H hn hrows hcells m1 m6 c1 hM hb0
  obtain ⟨f', hf'⟩ : ∃ f', f' = f := ⟨_, rfl⟩
  have HFF := hid hf'
  rw [← hf'] at HFC ⊢
  obtain ⟨kind, row, pixel⟩ := f
  rw [hf']
  clear hf'
  unfold Flt.val
  simp only [] at HC hwf ⊢
  go_enter Tryz.func81, Tryz.ntmps81
  go_wp2
  rw [← hwf]
  clear hwf
  go_loopw [5, 13] (fun v i wr => ∃ k : Nat, k ≤ n ∧ i = .int .i64 k ∧ RowsO 3 27 wr wf.heap.size (fun _ => True) v ((refFl M f').take k) ∧ Below wf.heap.size wf wr) (fun _ i _ => n - (intOf i).toNat)
  case atStart => exact ⟨0, Nat.zero_le _, rfl, RowsO.nil _ _ _ _ _, Below.refl _ _⟩
  case round =>
    obtain ⟨wo, hwo⟩ : ∃ wo, wo = wr := ⟨_, rfl⟩
    subst hwo
    obtain ⟨k, hk, rfl, hR, hbk⟩ := hrel
    by_cases hlt : k < n
    · have hkM : k < M.length := by rw [HN.out]; exact hlt
      have hbw := chain HB0.out hbk
      obtain ⟨b, off, ra, rn, rc, rfl, hbs, hq0, hrn, hrm, hri⟩ := (HH.out.below hbw) k hkM
      obtain ⟨hrl, hrv⟩ := HR.out M[k] (List.getElem_mem hkM)
      obtain ⟨r, hr⟩ : ∃ r, r = M[k] := ⟨_, rfl⟩
      have htk := refFl_take f' M k hkM
      rw [← hr] at hrn hri hrl hrv htk
      have hrn10 : rn ≤ 10 := by omega
      have HRI := hid hri
      have HRN := hid hrn
      have HRV := hid hrv
      have HTK := hid htk
      have HRO := hid hR
      have HBK := hid hbk
      have hfl : (fRow f' k r).length = rn := by rw [← hrn]; simp [fRow]
      have HFL := hid hfl
      have hl0 : ((refFl M f').take k).length = k := by rw [List.length_take]; simp [refFl]; omega
      have HL0 := hid hl0
      clear hrn hri hrl hrv htk hR hbk hkM hr hfl hl0 hrm
      go_wp2
      go_loopw [8, 20] (fun v i wr => ∃ j : Nat, j ≤ rn ∧ i = .int .i64 j ∧ wr.ownsRow wo.heap.size 3 1 v j (((fRow f' k r).take j).map (Value.int .i64)) ∧ Below wo.heap.size wo wr) (fun _ i _ => rn - (intOf i).toNat)
      case atStart => exact ⟨0, Nat.zero_le _, rfl, World.ownsRow_nil _ _ _ _, Below.refl _ _⟩
      case round =>
        obtain ⟨j, hj, rfl, hown, hbj⟩ := hrel
        by_cases hjlt : j < rn
        · obtain ⟨b2, off2, rfl, hbs2, hc2⟩ := (HRI.out.below hbj) j (by rw [HRN.out]; exact hjlt)
          have hjr : j < r.length := by rw [HRN.out]; exact hjlt
          have hget : r[j]?.getD 0 = r[j] := by rw [List.getElem?_eq_getElem hjr]; rfl
          have htj := fRow_take f' k j r hjr
          have hV := HRV.out r[j] (List.getElem_mem hjr)
          rw [hget] at hc2
          obtain ⟨V, hVE⟩ : ∃ V, V = r[j] := ⟨_, rfl⟩
          rw [← hVE] at hc2 htj hV
          obtain ⟨hV1, hV2⟩ := hV
          obtain ⟨_, f0, f1, f2⟩ := HC.out wr (chain HBK.out hbj)
          have hcase := HFC.out k j V
          have HTJ := hid htj
          have HOW := hid hown
          have HBJ := hid hbj
          obtain ⟨va, vc, rfl⟩ := ownsRow_slice hown
          have M1 := hid (show j + 1 ≤ maxLen by unfold maxLen; omega)
          have M2 := hid (show (j + 1) * 8 ≤ 140737488355328 by omega)
          clear hown hbj htj hVE hget hjr
          rw [HFF.out] at hcase
          simp only [] at hcase
          rcases hcase with h | h | h | h | h | h | h | h
          · obtain ⟨g1, g2, g3, g4, g5, hE⟩ := h
            have HE := hid hE
            have M3 := hid (Nat.le_trans HBJ.out.size (le_alloc wr (.cells #[.int .i64 0] 3)))
            clear hE
            go_wp2_with (at_builtin; refine wpList_app _ rfl (.tmp 62) (.tmp 64) 27 rfl wo.heap.size 3 (.int .i64 0) 1 8 Tryz.underlying27 info_int rfl Nat.one_pos (.slice va j vc) j _ rfl (HOW.out.alloc _) (some ⟨wr.heap.size, 0, none⟩) 1 1 [.int .i64 0] rfl rfl no_none (one_news wr _ _) (oneI _) M1.out M2.out M3.out ?_; refine Stop.of ?_)
            refine Stop.go ?_
            intro a3 c3 w3 own3 g3
            have hB3 : Below wo.heap.size wo w3 := (HBJ.out.alloc HBJ.out.size _).grown g3 M3.out (fun q hq => (HOW.out.lt q hq).1)
            go_wp2
            refine ⟨⟨j + 1, by omega, by go_num, ?_, hB3⟩, by simp [intOf]; omega⟩
            have e2 := HE.out
            rw [← HFF.out] at e2
            rw [snoc_int HTJ.out, e2, List.map_take]
            exact own3
          · obtain ⟨g1, g2, g3, g4, g5, hE⟩ := h
            have HE := hid hE
            have M3 := hid (Nat.le_trans HBJ.out.size (le_alloc wr (.cells #[.int .i64 V] 3)))
            clear hE
            go_wp2_with (at_builtin; refine wpList_app _ rfl (.tmp 62) (.tmp 64) 27 rfl wo.heap.size 3 (.int .i64 0) 1 8 Tryz.underlying27 info_int rfl Nat.one_pos (.slice va j vc) j _ rfl (HOW.out.alloc _) (some ⟨wr.heap.size, 0, none⟩) 1 1 [.int .i64 V] rfl rfl no_none (one_news wr _ _) (oneI _) M1.out M2.out M3.out ?_; refine Stop.of ?_)
            refine Stop.go ?_
            intro a3 c3 w3 own3 g3
            have hB3 : Below wo.heap.size wo w3 := (HBJ.out.alloc HBJ.out.size _).grown g3 M3.out (fun q hq => (HOW.out.lt q hq).1)
            go_wp2
            refine ⟨⟨j + 1, by omega, by go_num, ?_, hB3⟩, by simp [intOf]; omega⟩
            have e2 := HE.out
            rw [← HFF.out] at e2
            rw [snoc_int HTJ.out, e2, List.map_take]
            exact own3
          · obtain ⟨g1, g2, g3, g4, g5, hE⟩ := h
            have HE := hid hE
            have M3 := hid (Nat.le_trans HBJ.out.size (le_alloc wr (.cells #[.int .i64 0] 3)))
            clear hE
            go_wp2_with (at_builtin; refine wpList_app _ rfl (.tmp 62) (.tmp 64) 27 rfl wo.heap.size 3 (.int .i64 0) 1 8 Tryz.underlying27 info_int rfl Nat.one_pos (.slice va j vc) j _ rfl (HOW.out.alloc _) (some ⟨wr.heap.size, 0, none⟩) 1 1 [.int .i64 0] rfl rfl no_none (one_news wr _ _) (oneI _) M1.out M2.out M3.out ?_; refine Stop.of ?_)
            refine Stop.go ?_
            intro a3 c3 w3 own3 g3
            have hB3 : Below wo.heap.size wo w3 := (HBJ.out.alloc HBJ.out.size _).grown g3 M3.out (fun q hq => (HOW.out.lt q hq).1)
            go_wp2
            refine ⟨⟨j + 1, by omega, by go_num, ?_, hB3⟩, by simp [intOf]; omega⟩
            have e2 := HE.out
            rw [← HFF.out] at e2
            rw [snoc_int HTJ.out, e2, List.map_take]
            exact own3
          · obtain ⟨g1, g2, g3, g4, g5, hE⟩ := h
            have HE := hid hE
            have M3 := hid (Nat.le_trans HBJ.out.size (le_alloc wr (.cells #[.int .i64 V] 3)))
            clear hE
            go_wp2_with (at_builtin; refine wpList_app _ rfl (.tmp 62) (.tmp 64) 27 rfl wo.heap.size 3 (.int .i64 0) 1 8 Tryz.underlying27 info_int rfl Nat.one_pos (.slice va j vc) j _ rfl (HOW.out.alloc _) (some ⟨wr.heap.size, 0, none⟩) 1 1 [.int .i64 V] rfl rfl no_none (one_news wr _ _) (oneI _) M1.out M2.out M3.out ?_; refine Stop.of ?_)
            refine Stop.go ?_
            intro a3 c3 w3 own3 g3
            have hB3 : Below wo.heap.size wo w3 := (HBJ.out.alloc HBJ.out.size _).grown g3 M3.out (fun q hq => (HOW.out.lt q hq).1)
            go_wp2
            refine ⟨⟨j + 1, by omega, by go_num, ?_, hB3⟩, by simp [intOf]; omega⟩
            have e2 := HE.out
            rw [← HFF.out] at e2
            rw [snoc_int HTJ.out, e2, List.map_take]
            exact own3
          · obtain ⟨g1, g2, g3, g4, g5, hE⟩ := h
            have HE := hid hE
            have M3 := hid (Nat.le_trans HBJ.out.size (le_alloc wr (.cells #[.int .i64 (-V)] 3)))
            clear hE
            go_wp2_with (at_builtin; refine wpList_app _ rfl (.tmp 62) (.tmp 64) 27 rfl wo.heap.size 3 (.int .i64 0) 1 8 Tryz.underlying27 info_int rfl Nat.one_pos (.slice va j vc) j _ rfl (HOW.out.alloc _) (some ⟨wr.heap.size, 0, none⟩) 1 1 [.int .i64 (-V)] rfl rfl no_none (one_news wr _ _) (oneI _) M1.out M2.out M3.out ?_; refine Stop.of ?_)
            refine Stop.go ?_
            intro a3 c3 w3 own3 g3
            have hB3 : Below wo.heap.size wo w3 := (HBJ.out.alloc HBJ.out.size _).grown g3 M3.out (fun q hq => (HOW.out.lt q hq).1)
            go_wp2
            refine ⟨⟨j + 1, by omega, by go_num, ?_, hB3⟩, by simp [intOf]; omega⟩
            have e2 := HE.out
            rw [← HFF.out] at e2
            rw [snoc_int HTJ.out, e2, List.map_take]
            exact own3
          · obtain ⟨g1, g2, g3, g4, g5, hE⟩ := h
            have HE := hid hE
            have M3 := hid (Nat.le_trans HBJ.out.size (le_alloc wr (.cells #[.int .i64 V] 3)))
            clear hE
            go_wp2_with (at_builtin; refine wpList_app _ rfl (.tmp 62) (.tmp 64) 27 rfl wo.heap.size 3 (.int .i64 0) 1 8 Tryz.underlying27 info_int rfl Nat.one_pos (.slice va j vc) j _ rfl (HOW.out.alloc _) (some ⟨wr.heap.size, 0, none⟩) 1 1 [.int .i64 V] rfl rfl no_none (one_news wr _ _) (oneI _) M1.out M2.out M3.out ?_; refine Stop.of ?_)
            refine Stop.go ?_
            intro a3 c3 w3 own3 g3
            have hB3 : Below wo.heap.size wo w3 := (HBJ.out.alloc HBJ.out.size _).grown g3 M3.out (fun q hq => (HOW.out.lt q hq).1)
            go_wp2
            refine ⟨⟨j + 1, by omega, by go_num, ?_, hB3⟩, by simp [intOf]; omega⟩
            have e2 := HE.out
            rw [← HFF.out] at e2
            rw [snoc_int HTJ.out, e2, List.map_take]
            exact own3
          · obtain ⟨g1, g2, g3, g4, g5, hE⟩ := h
            have HE := hid hE
            have M3 := hid (Nat.le_trans HBJ.out.size (le_alloc wr (.cells #[.int .i64 V] 3)))
            clear hE
            go_wp2_with (at_builtin; refine wpList_app _ rfl (.tmp 62) (.tmp 64) 27 rfl wo.heap.size 3 (.int .i64 0) 1 8 Tryz.underlying27 info_int rfl Nat.one_pos (.slice va j vc) j _ rfl (HOW.out.alloc _) (some ⟨wr.heap.size, 0, none⟩) 1 1 [.int .i64 V] rfl rfl no_none (one_news wr _ _) (oneI _) M1.out M2.out M3.out ?_; refine Stop.of ?_)
            refine Stop.go ?_
            intro a3 c3 w3 own3 g3
            have hB3 : Below wo.heap.size wo w3 := (HBJ.out.alloc HBJ.out.size _).grown g3 M3.out (fun q hq => (HOW.out.lt q hq).1)
            go_wp2
            refine ⟨⟨j + 1, by omega, by go_num, ?_, hB3⟩, by simp [intOf]; omega⟩
            have e2 := HE.out
            rw [← HFF.out] at e2
            rw [snoc_int HTJ.out, e2, List.map_take]
            exact own3
          · obtain ⟨g1, g2, g3, g4, g5, hE⟩ := h
            have HE := hid hE
            have M3 := hid (Nat.le_trans HBJ.out.size (le_alloc wr (.cells #[.int .i64 V] 3)))
            clear hE
            go_wp2_with (at_builtin; refine wpList_app _ rfl (.tmp 62) (.tmp 64) 27 rfl wo.heap.size 3 (.int .i64 0) 1 8 Tryz.underlying27 info_int rfl Nat.one_pos (.slice va j vc) j _ rfl (HOW.out.alloc _) (some ⟨wr.heap.size, 0, none⟩) 1 1 [.int .i64 V] rfl rfl no_none (one_news wr _ _) (oneI _) M1.out M2.out M3.out ?_; refine Stop.of ?_)
            refine Stop.go ?_
            intro a3 c3 w3 own3 g3
            have hB3 : Below wo.heap.size wo w3 := (HBJ.out.alloc HBJ.out.size _).grown g3 M3.out (fun q hq => (HOW.out.lt q hq).1)
            go_wp2
            refine ⟨⟨j + 1, by omega, by go_num, ?_, hB3⟩, by simp [intOf]; omega⟩
            have e2 := HE.out
            rw [← HFF.out] at e2
            rw [snoc_int HTJ.out, e2, List.map_take]
            exact own3
        · obtain rfl : j = rn := by omega
          rw [List.take_of_length_le (by rw [HFL.out]; exact Nat.le_refl _)] at hown
          obtain ⟨vs, ho, hg, he⟩ := HRO.out.keep (Keep.of_below hbj)
          rw [HL0.out] at ho
          have hel : ElemI 3 wr wf.heap.size (fun _ => True) u8 (fRow f' k r) := ElemI.own' hown rfl HFL.out (by unfold maxLen; omega) (fun _ _ => trivial)
          have HO := hid ho
          have HE := hid he
          have HEL := hid hel
          obtain ⟨va, vc, rfl⟩ := ownsRow_slice hown
          have HBJ := hid hbj
          have M1 := hid (show k + 1 ≤ maxLen by unfold maxLen; omega)
          have M2 := hid (show (k + 1) * 24 ≤ 140737488355328 by omega)
          have M3 := hid (show wf.heap.size ≤ (wr.alloc (.cells #[.slice va j vc] 27)).heap.size from by have := HBK.out.size; have := HBJ.out.size; simp; omega)
          clear ho he hel hown hbj hg
          go_wp2_with (at_builtin; refine wpList_app _ rfl (.tmp 67) (.tmp 69) 23 rfl wf.heap.size 27 (.slice none 0 0) 1 24 Tryz.underlying23 info_ints rfl Nat.one_pos u5 k vs rfl (HO.out.alloc _) (some ⟨wr.heap.size, 0, none⟩) 1 1 [.slice va j vc] rfl rfl no_none (one_news wr _ _) (slice_oneCell _ _ _) M1.out M2.out M3.out ?_; refine Stop.of ?_)
          refine Stop.go ?_
          intro a3 c3 w3 own3 g3
          have hR3 : RowsO 3 27 w3 wf.heap.size (fun _ => True) (.slice a3 (k + 1) c3) ((refFl M f').take k ++ [fRow f' k r]) :=
            RowsO.snoc (by decide) (by rw [HL0.out]; exact HO.out) HE.out HEL.out ((Below.refl _ wr).alloc (Nat.le_refl _) _) g3 (by rw [HL0.out]; exact own3) (fun _ _ => trivial)
          have hb3 : Below wf.heap.size wf w3 := ((HBK.out.trans (HBJ.out.mono HBK.out.size)).alloc (by have := HBK.out.size; have := HBJ.out.size; omega) _).grown g3 M3.out (fun q hq => (HO.out.lt q hq).1)
          go_wp2
          exact ⟨⟨k + 1, by omega, by go_num, by rw [HTK.out]; exact hR3, hb3⟩, by simp [intOf]; omega⟩
    · obtain rfl : k = n := by omega
      rw [List.take_of_length_le (by simp [refFl, HN.out])] at hR
      go_wp2
      go_ret
      refine ⟨_, wf.heap.size, rfl, HB0.out.size, ?_, chain HB0.out hbk⟩
      rw [← HFF.out]
      exact hR

theorem refFaulty_r (w : World) (a : Option Addr) (n cap : Nat) (M : Mask) (hn : M.length = n) (H : RowsAt w a M) (hM : okM M = true) (f : Flt) (hf : okF M f = true) :
    Calls Tryz.prog 81 #[.slice a n cap, f.val] w fun e w' => ∃ v base, e = .returned v ∧ w.heap.size ≤ base ∧ RowsO 3 27 w' base (fun _ => True) v (faultyM M f) ∧ Below w.heap.size w w' := by
  rw [← refFl_eq hM hf]
  exact refFaulty_c w a n cap M hn H hM f

end Go.Proofs.YthaampmdponhbaaGreatDoor

namespace Go.Proofs.YthaampmdponhbaaGreatDoor
open Go.RowKit
set_option linter.unusedVariables false

set_option maxHeartbeats 1000000 in
theorem sameMask_c (w : World) (a a2 : Option Addr) (n cap n2 cap2 : Nat) (A B : Mask) (hn : A.length = n) (hn2 : B.length = n2) (hm : n ≤ maxLen) (hm2 : n2 ≤ maxLen) (H : RowsAt w a A) (H2 : RowsAt w a2 B) :
    Calls Tryz.prog 104 #[.slice a n cap, .slice a2 n2 cap2] w fun e w' => e = .returned (.bool (decide (A = B))) ∧ ∃ k, w' = w.drewN k := by
  have HN := hid hn
  have HN2 := hid hn2
  have HH := hid H
  have HH2 := hid H2
  clear hn hn2 H H2
  unfold maxLen at hm hm2
  by_cases hl : n = n2
  · have hd : ((n : Int) != (n2 : Int)) = false := by simp [hl]
    have HL := hid hl
    clear hl
    go_enter Tryz.func104, Tryz.ntmps104
    go_wp2
    go_loopw [13] (fun i wr => ∃ k : Nat, k ≤ n ∧ i = .int .i64 k ∧ (∃ q, wr = w.drewN q) ∧ ∀ j (hj : j < A.length) (hj2 : j < B.length), j < k → A[j] = B[j]) (fun i _ => n - (intOf i).toNat)
    case atStart => exact ⟨0, Nat.zero_le _, rfl, ⟨0, rfl⟩, fun i _ _ h => by omega⟩
    case round =>
      obtain ⟨k, hk, rfl, hq, hno⟩ := hrel
      have hbw : Below w.heap.size w wr := by obtain ⟨q, rfl⟩ := hq; exact below_drewN (Below.refl _ _) q
      have HQ := hid hq
      have HNO := hid hno
      clear hno hq
      by_cases hlt : k < n
      · have hkl : k < A.length := by rw [HN.out]; exact hlt
        have hkl2 : k < B.length := by rw [HN2.out, ← HL.out]; exact hlt
        obtain ⟨b, off, ra, rn, rc, rfl, hbs, hc, hrn, hrm, hri⟩ := (HH.out.below hbw) k hkl
        obtain ⟨b', off', ra', rn', rc', rfl, hbs', hc', hrn', hrm', hri'⟩ := (HH2.out.below hbw) k hkl2
        have HI := hid (fun q2 => sameInts_c (wr.drewN q2) ra ra' rn rc rn' rc' A[k] B[k] hrn hrn' hrm hrm' (hri.below (below_drewN (Below.refl _ _) q2)) (hri'.below (below_drewN (Below.refl _ _) q2)))
        have hlt2 : k < n2 := by have := HL.out; omega
        have HKL := hid hkl
        have HKL2 := hid hkl2
        clear hri hri' hrn hrn'
        by_cases he : A[k] = B[k]
        · have HE := hid he
          have HS := hid (fun q2 => (HI.out q2).mono fun e w' ⟨h1, h2⟩ => show e = Ending.returned (.bool true) ∧ ∃ k, w' = (wr.drewN q2).drewN k from ⟨h1.trans (ret_bool (decide_eq_true he)), h2⟩)
          clear he HI
          go_wp2
          go_quiet ((go_at_call 46; exact Calls.quiet_of (HS.out _)))
          go_wp2
          refine ⟨⟨k + 1, by omega, by go_num, (by obtain ⟨q, e⟩ := HQ.out; exact ⟨_, by rw [e, drewN_add]⟩), fun j hj hj2 hjk => ?_⟩, by simp [intOf]; omega⟩
          by_cases e : j = k
          · subst e; exact HE.out
          · exact HNO.out j hj hj2 (by omega)
        · have HE := hid he
          have HS := hid (fun q2 => (HI.out q2).mono fun e w' ⟨h1, h2⟩ => show e = Ending.returned (.bool false) ∧ ∃ k, w' = (wr.drewN q2).drewN k from ⟨h1.trans (ret_bool (decide_eq_false he)), h2⟩)
          clear he HI
          go_wp2
          go_quiet ((go_at_call 46; exact Calls.quiet_of (HS.out _)))
          go_wp2
          go_ret
          refine ⟨ret_bool ?_, (by obtain ⟨q, e⟩ := HQ.out; exact ⟨_, by rw [e, drewN_add]⟩)⟩
          symm
          rw [decide_eq_false_iff_not]
          rintro rfl
          exact HE.out rfl
      · go_wp2
        go_ret
        refine ⟨ret_bool ?_, HQ.out⟩
        symm
        rw [decide_eq_true_iff]
        have h1 := HN.out
        have h2 := HN2.out
        have h3 := HL.out
        exact List.ext_getElem (by omega) fun i g1 g2 => HNO.out i g1 g2 (by omega)
  · have hd : ((n : Int) != (n2 : Int)) = true := by simp; omega
    have HL := hid hl
    clear hl
    go_enter Tryz.func104, Tryz.ntmps104
    go_wp2
    go_ret
    refine ⟨ret_bool ?_, 0, rfl⟩
    symm
    rw [decide_eq_false_iff_not]
    rintro rfl
    exact HL.out (HN.out.symm.trans HN2.out)

set_option maxHeartbeats 4000000 in
set_option maxRecDepth 100000 in
theorem refReads_c (w : World) (a : Option Addr) (n cap : Nat) (M : Mask) (hn : M.length = n) (H : RowsAt w a M) (hM : okM M = true) (f : Flt) (hf : okF M f = true) (a2 : Option Addr) (n2 cap2 : Nat) (x : List Int) (hn2 : x.length = n2) (H2 : IntsAt w a2 x) (hx : okShown M x = true) :
    Calls Tryz.prog 45 #[.slice a n cap, f.val, .slice a2 n2 cap2] w fun e w' => ∃ v base, e = .returned v ∧ w.heap.size ≤ base ∧ w'.ownsRow base 3 1 v n ((readF M f x).map (Value.int .i64)) ∧ Below w.heap.size w w' := by
  obtain ⟨wf, hwf, hb0, hcells⟩ := fltBox w f
  have HF := hid (refFaulty_r wf a n cap M hn (H.below hb0) hM f hf)
  have hx2 : n2 = colsM M := by
    unfold okShown at hx
    simp at hx
    rw [← hn2]; exact hx.1.2
  have hc10 := okM10 hM
  have HRows := hid (fun (r : List Int) (hr : r ∈ faultyM M f) => show r.length = n2 by rw [(faultyM_cols hM hf r hr).1, hx2])
  have HN := hid (show (faultyM M f).length = n by rw [faultyM_row, hn])
  have hn6 : n ≤ 6 := by have := (okM_len hM).2.1; omega
  have hn210 : n2 ≤ 10 := by omega
  have HX := hid H2
  have HXN := hid hn2
  have HB0 := hid hb0
  obtain ⟨_, f0, f1, f2⟩ := hcells wf (Below.refl _ _)
  have hre : readF M f x = readM (faultyM M f) x := rfl
  rw [hre]
  obtain ⟨Mf, hMf⟩ : ∃ Mf, Mf = faultyM M f := ⟨_, rfl⟩
  rw [← hMf] at HF HRows HN ⊢
  have HWF := hid hwf
  clear hre hMf hn H hf hn2 H2 hx hM hcells hb0 hwf hx2 hc10
  obtain ⟨kind, row, pixel⟩ := f
  unfold Flt.val at HF ⊢
  simp only [] at HF HWF f0 f1 f2 ⊢
  have hw := HWF.out
  clear HWF
  subst hw
  go_enter Tryz.func45, Tryz.ntmps45
  go_wp2_with (go_at_call 81; refine HF.out.mono ?_; rintro e w1 ⟨v, base, rfl, hbase, hown, hb1⟩; refine Stop.of ?_)
  refine Stop.go ?_
  obtain ⟨va, vc, rfl, _, hrows, _⟩ := hown.reads
  have HNN := HN.out
  rw [HNN]
  have HR := hid hrows
  have HB1 := hid (chain HB0.out hb1)
  clear hown hrows hbase hb1 HNN f0 f1 f2
  go_wp2
  go_loopw [7, 17] (fun v i wr => ∃ k : Nat, k ≤ n ∧ i = .int .i64 k ∧ wr.ownsRow w1.heap.size 3 1 v k ((readM (Mf.take k) x).map (Value.int .i64)) ∧ Below w1.heap.size w1 wr) (fun _ i _ => n - (intOf i).toNat)
  case atStart => exact ⟨0, Nat.zero_le _, rfl, World.ownsRow_nil _ _ _ _, Below.refl _ _⟩
  case round =>
    obtain ⟨wo, hwo⟩ : ∃ wo, wo = wr := ⟨_, rfl⟩
    subst hwo
    obtain ⟨k, hk, rfl, hown, hbk⟩ := hrel
    by_cases hlt : k < n
    · have hkM : k < Mf.length := by rw [HN.out]; exact hlt
      obtain ⟨b, off, ra, rn, rc, rfl, hbs, hq0, hrn, hrm, hri⟩ := (HR.out.below hbk) k hkM
      have hrl := HRows.out Mf[k] (List.getElem_mem hkM)
      obtain ⟨r, hr⟩ : ∃ r, r = Mf[k] := ⟨_, rfl⟩
      have htk := readM_take Mf x k hkM
      rw [← hr] at hrn hri hrl htk
      obtain rfl : rn = n2 := by omega
      have HTK := hid htk
      have HRN := hid hrn
      have HRI := hid hri
      have HOW := hid hown
      have HBK := hid hbk
      have HXK := hid (HX.out.below (chain HB1.out hbk))
      obtain ⟨va', vc', rfl⟩ := ownsRow_slice hown
      clear hr htk hrn hri hrl hown hbk hkM hrm
      go_wp2
      go_loopw [10, 23] (fun s i wr => ∃ j : Nat, j ≤ rn ∧ i = .int .i64 j ∧ s = .int .i64 (dotTo r x j) ∧ wr = wo) (fun _ i _ => rn - (intOf i).toNat)
      case atStart => exact ⟨0, Nat.zero_le _, rfl, rfl, rfl⟩
      case round =>
        obtain ⟨j, hj, rfl, rfl, rfl⟩ := hrel
        by_cases hjlt : j < rn
        · obtain ⟨b2, off2, rfl, hbs2, hc2⟩ := HRI.out j (by rw [HRN.out]; exact hjlt)
          obtain ⟨b3, off3, rfl, hbs3, hc3⟩ := HXK.out j (by rw [HXN.out]; exact hjlt)
          go_wp2
          exact ⟨⟨j + 1, by omega, by go_num, rfl, trivial⟩, by simp [intOf]; omega⟩
        · obtain rfl : j = rn := by omega
          obtain ⟨D, hD⟩ : ∃ D, D = dotTo r x j := ⟨_, rfl⟩
          have HD := hid (show D = dotW r x by rw [hD]; unfold dotW; rw [HRN.out])
          rw [← hD]
          clear hD
          have M1 := hid (show k + 1 ≤ maxLen by unfold maxLen; omega)
          have M2 := hid (show (k + 1) * 8 ≤ 140737488355328 by omega)
          have M3 := hid (Nat.le_trans HBK.out.size (le_alloc wr (.cells #[.int .i64 D] 3)))
          go_wp2_with (at_builtin; refine wpList_app _ rfl (.tmp 37) (.tmp 39) 27 rfl w1.heap.size 3 (.int .i64 0) 1 8 Tryz.underlying27 info_int rfl Nat.one_pos (.slice va' k vc') k _ rfl (HOW.out.alloc _) (some ⟨wr.heap.size, 0, none⟩) 1 1 [.int .i64 D] rfl rfl no_none (one_news wr _ _) (oneI _) M1.out M2.out M3.out ?_; refine Stop.of ?_)
          refine Stop.go ?_
          intro a3 c3 w3 own3 g3
          have hB3 : Below w1.heap.size w1 w3 := (HBK.out.alloc HBK.out.size _).grown g3 M3.out (fun q hq => (HOW.out.lt q hq).1)
          go_wp2
          refine ⟨⟨k + 1, by omega, by go_num, ?_, hB3⟩, by simp [intOf]; omega⟩
          rw [HTK.out, ← HD.out]
          simpa using own3
    · obtain rfl : k = n := by omega
      go_wp2
      go_ret
      refine ⟨_, w1.heap.size, rfl, HB1.out.size, ?_, chain HB1.out hbk⟩
      rw [← HN.out, List.take_length] at hown
      rw [HN.out] at hown
      exact hown
end Go.Proofs.YthaampmdponhbaaGreatDoor

namespace Go.Proofs.YthaampmdponhbaaGreatDoor
open Go.RowKit
set_option linter.unusedVariables false

theorem flt_newsA (w : World) (f : Flt) (T : TypeId) : ∀ ad, (some ⟨w.heap.size, 0, none⟩ : Option Addr) = some ad → ∀ j u, (fltCells f)[j]? = some u → (w.alloc (.cells (fltCells f).toArray T)).cell? (ad.add j) = some u := by
  intro ad e
  cases e
  exact flt_news w f T
theorem FltsO.snoc {W : World} {base n : Nat} {v : Value} {l : List Flt} {f : Flt} (hl : l.length = n) (h : W.ownsRow base 25 3 v (n + 1) (fltVals l ++ fltCells f)) : FltsO W base v (l ++ [f]) := by
  subst hl
  unfold FltsO
  rw [fltVals_snoc, List.length_append]
  exact h
theorem FltsO.slice {W : World} {base : Nat} {v : Value} {l : List Flt} (h : FltsO W base v l) : ∃ a c, v = .slice a l.length c := ownsRow_slice h

def turnsTo (i : Nat) (r : List Int) (k : Nat) : List Flt := ((List.range k).filter (fun j : Nat => !decide (r[j]?.getD 0 = 0))).map (fun j : Nat => ⟨3, (i : Int), (j : Int)⟩)
theorem turnsTo_succ (i : Nat) (r : List Int) (k : Nat) : turnsTo i r (k + 1) = turnsTo i r k ++ (if r[k]?.getD 0 = 0 then [] else [⟨3, (i : Int), (k : Int)⟩]) := by
  unfold turnsTo
  rw [List.range_succ, List.filter_append, List.map_append]
  congr 1
  by_cases h : r[k]?.getD 0 = 0 <;> simp [h]
set_option maxHeartbeats 4000000 in
set_option maxRecDepth 100000 in
theorem refEvery_c (w : World) (a : Option Addr) (n cap : Nat) (M : Mask) (hn : M.length = n) (H : RowsAt w a M) (hM : okM M = true) :
    Calls Tryz.prog 103 #[.slice a n cap] w fun e w' => ∃ v base, e = .returned v ∧ w.heap.size ≤ base ∧ FltsO w' base v (listF M) ∧ Below w.heap.size w w' := by
  obtain ⟨m1, m6, c1, c10, hrows⟩ := okM_len hM
  obtain ⟨b, off, qa, qn, qc, rfl, hbs, hq0, hqn, hqm, hqi⟩ := H 0 (by omega)
  simp only [Nat.add_zero] at hq0
  have hcols : colsM M = qn := by unfold colsM; rw [List.getElem?_eq_getElem (by omega), ← hqn]; rfl
  have HCO := hid hcols
  have HR := hid hrows
  have HN := hid hn
  have HH := hid H
  have hq1 : 1 ≤ qn := by omega
  have hq10 : qn ≤ 10 := by omega
  have hn6 : n ≤ 6 := by omega
  have hn1 : 1 ≤ n := by omega
  obtain ⟨w0, hw0⟩ : ∃ w0, w0 = w.alloc (.cells #[.int .i64 0, .int .i64 0, .int .i64 0] 25) := ⟨_, rfl⟩
  have hb0 : Below w.heap.size w w0 := by rw [hw0]; exact (Below.refl _ _).alloc (Nat.le_refl _) _
  have ho0 : FltsO w0 w.heap.size (.slice (some ⟨w.heap.size, 0, none⟩) 1 1) [⟨0, 0, 0⟩] := by
    rw [hw0]
    exact ⟨rfl, .inr ⟨w.heap.size, 1, #[.int .i64 0, .int .i64 0, .int .i64 0], rfl, Nat.le_refl _, World.alloc_heap_new w _, Nat.le_refl _, by unfold maxLen; omega, rfl, rfl⟩⟩
  have HB0 := hid hb0
  have HO0 := hid ho0
  have HW0 := hid hw0
  clear hcols hrows hn H hM m1 m6 c1 c10 hqn hqm hqi hb0 ho0 hw0
  go_enter Tryz.func103, Tryz.ntmps103
  go_wp2
  rw [← HW0.out]
  go_loopw [3, 14] (fun v i wr => ∃ (k : Nat) (l : List Flt), k ≤ n ∧ i = .int .i64 k ∧ FltsO wr w.heap.size v l ∧ l.length ≤ 1 + k ∧ Hid (l = [⟨0, 0, 0⟩] ++ (List.range k).map (fun i : Nat => ⟨1, (i : Int), 0⟩)) ∧ Below w.heap.size w wr) (fun _ i _ => n - (intOf i).toNat)
  case atStart => exact ⟨0, _, Nat.zero_le _, rfl, HO0.out, Nat.le_refl _, hid rfl, HB0.out⟩
  case round =>
    obtain ⟨k, l, hk, rfl, hF, hll, hl, hbk⟩ := hrel
    by_cases hlt : k < n
    · obtain ⟨va, vc, rfl⟩ := hF.slice
      obtain ⟨L, hL⟩ : ∃ L, L = l.length := ⟨_, rfl⟩
      have HL := hid hL
      have HF := hid (show wr.ownsRow w.heap.size 25 3 (.slice va L vc) L (fltVals l) by rw [hL]; exact hF)
      have HBK := hid hbk
      rw [← hL] at hll ⊢
      have M1 := hid (show L + 1 ≤ maxLen by unfold maxLen; omega)
      have M2 := hid (show (L + 1) * 24 ≤ 140737488355328 by omega)
      have M3 := hid (show w.heap.size ≤ (wr.alloc (.cells (fltCells ⟨1, (k : Int), 0⟩).toArray 25)).heap.size by have := hbk.size; simp; omega)
      clear hF hbk hL
      go_wp2_with (at_builtin; refine wpList_app _ rfl (.tmp 17) (.tmp 20) 36 rfl w.heap.size 25 (.agg #[.int .i64 0, .int .i64 0, .int .i64 0]) 3 24 Tryz.underlying36 info_fault rfl (by decide) (.slice va L vc) L _ rfl (HF.out.alloc _) (some ⟨wr.heap.size, 0, none⟩) 1 1 (fltCells ⟨1, (k : Int), 0⟩) rfl rfl no_none (flt_newsA wr ⟨1, (k : Int), 0⟩ _) (flt_one _) M1.out M2.out M3.out ?_; refine Stop.of ?_)
      refine Stop.go ?_
      intro a3 c3 w3 own3 g3
      have hb3 : Below w.heap.size w w3 := (HBK.out.alloc HBK.out.size _).grown g3 M3.out (fun q hq => (HF.out.lt q hq).1)
      go_wp2
      refine ⟨⟨k + 1, _, by omega, by go_num, FltsO.snoc HL.out.symm own3, by rw [List.length_append, ← HL.out]; simp; omega, hid ?_, hb3⟩, by simp [intOf]; omega⟩
      rw [hl.out, List.range_succ, List.map_append, List.append_assoc]; rfl
    · obtain rfl : k = n := by omega
      obtain ⟨A, hA⟩ : ∃ A, A = l := ⟨_, rfl⟩
      subst hA
      have hc1 : wr.cell? ⟨b, off, none⟩ = some (.slice qa qn qc) := (hbk.cell (p := ⟨b, off, none⟩) hbs).trans hq0
      go_wp2
      go_loopw [3, 27] (fun v i wr => ∃ (j : Nat) (l : List Flt), j ≤ qn ∧ i = .int .i64 j ∧ FltsO wr w.heap.size v l ∧ l.length ≤ 1 + k + j ∧ Hid (l = A ++ (List.range j).map (fun i : Nat => ⟨2, 0, (i : Int)⟩)) ∧ Below w.heap.size w wr) (fun _ i _ => qn - (intOf i).toNat)
      case atStart => exact ⟨0, A, Nat.zero_le _, rfl, hF, by omega, hid (by simp), hbk⟩
      case round =>
        clear hc1 hF hbk hll
        obtain ⟨j, l, hj, rfl, hF, hll, hl2, hbk⟩ := hrel
        by_cases hlt : j < qn
        · obtain ⟨va, vc, rfl⟩ := hF.slice
          obtain ⟨L, hL⟩ : ∃ L, L = l.length := ⟨_, rfl⟩
          have HL := hid hL
          have HF := hid (show wr.ownsRow w.heap.size 25 3 (.slice va L vc) L (fltVals l) by rw [hL]; exact hF)
          have HBK := hid hbk
          rw [← hL] at hll ⊢
          have M1 := hid (show L + 1 ≤ maxLen by unfold maxLen; omega)
          have M2 := hid (show (L + 1) * 24 ≤ 140737488355328 by omega)
          have M3 := hid (show w.heap.size ≤ (wr.alloc (.cells (fltCells ⟨2, 0, (j : Int)⟩).toArray 25)).heap.size by have := hbk.size; simp; omega)
          clear hF hbk hL
          go_wp2_with (at_builtin; refine wpList_app _ rfl (.tmp 30) (.tmp 33) 36 rfl w.heap.size 25 (.agg #[.int .i64 0, .int .i64 0, .int .i64 0]) 3 24 Tryz.underlying36 info_fault rfl (by decide) (.slice va L vc) L _ rfl (HF.out.alloc _) (some ⟨wr.heap.size, 0, none⟩) 1 1 (fltCells ⟨2, 0, (j : Int)⟩) rfl rfl no_none (flt_newsA wr ⟨2, 0, (j : Int)⟩ _) (flt_one _) M1.out M2.out M3.out ?_; refine Stop.of ?_)
          refine Stop.go ?_
          intro a3 c3 w3 own3 g3
          have hb3 : Below w.heap.size w w3 := (HBK.out.alloc HBK.out.size _).grown g3 M3.out (fun q hq => (HF.out.lt q hq).1)
          go_wp2
          refine ⟨⟨j + 1, _, by omega, by go_num, FltsO.snoc HL.out.symm own3, by rw [List.length_append, ← HL.out]; simp; omega, hid ?_, hb3⟩, by simp [intOf]; omega⟩
          rw [hl2.out, List.range_succ, List.map_append, List.append_assoc]; rfl
        · obtain rfl : j = qn := by omega
          obtain ⟨B, hB⟩ : ∃ B, B = l := ⟨_, rfl⟩
          subst hB
          go_wp2
          go_loopw [3, 38] (fun v i wr => ∃ (i' : Nat) (l : List Flt), i' ≤ k ∧ i = .int .i64 i' ∧ FltsO wr w.heap.size v l ∧ l.length ≤ 1 + k + j + 10 * i' ∧ Hid (l = B ++ (List.range i').flatMap (fun i : Nat => turnsF M i (M[i]?.getD []))) ∧ Below w.heap.size w wr) (fun _ i _ => k - (intOf i).toNat)
          case atStart => exact ⟨0, B, Nat.zero_le _, rfl, hF, by omega, hid (by simp), hbk⟩
          case round =>
            clear hF hbk hll
            obtain ⟨i, C, hi, rfl, hF, hll, hl3, hbk⟩ := hrel
            by_cases hlt : i < k
            · have hiM : i < M.length := by rw [HN.out]; exact hlt
              obtain ⟨b1, off1, ra, rn, rc, e1, hbs1, hri0, hrn, hrm, hrI⟩ := HH.out i hiM
              cases e1
              have hri0 : wr.cell? ⟨b, off + i, none⟩ = some (.slice ra rn rc) := (hbk.cell (p := ⟨b, _, none⟩) hbs1).trans hri0
              have hrl := (HR.out M[i] (List.getElem_mem hiM)).1
              have htf : turnsF M i (M[i]?.getD []) = turnsTo i M[i] rn := by rw [List.getElem?_eq_getElem hiM, ← hrn]; rfl
              obtain ⟨r, hr⟩ : ∃ r, r = M[i] := ⟨_, rfl⟩
              rw [← hr] at hrn hrI hrl htf
              have hrn10 : rn ≤ 10 := by have := HCO.out; omega
              have HRN := hid hrn
              have HRI := hid hrI
              have HTF := hid htf
              have HWB := hid hbk
              obtain ⟨wo, hwo⟩ : ∃ wo, wo = wr := ⟨_, rfl⟩
              subst hwo
              clear hrn hrI hrl htf hr hiM hrm
              go_wp2
              go_loopw [3, 45] (fun v i' wr => ∃ (s : Nat) (l : List Flt), s ≤ rn ∧ i' = .int .i64 s ∧ FltsO wr w.heap.size v l ∧ l.length ≤ 1 + k + j + 10 * i + s ∧ Hid (l = C ++ turnsTo i r s) ∧ Below w.heap.size w wr) (fun _ i' _ => rn - (intOf i').toNat)
              case atStart => exact ⟨0, C, Nat.zero_le _, rfl, hF, by omega, hid (by simp [turnsTo]), hbk⟩
              case round =>
                clear hF hbk hll
                obtain ⟨s, l, hs, rfl, hF, hll, hl4, hbk⟩ := hrel
                by_cases hlt : s < rn
                · obtain ⟨b2, off2, rfl, hbs2, hc2⟩ := HRI.out s (by rw [HRN.out]; exact hlt)
                  have hc2 := (hbk.cell (p := ⟨b2, _, none⟩) hbs2).trans hc2
                  have hts := turnsTo_succ i r s
                  obtain ⟨X, hX⟩ : ∃ X, X = r[s]?.getD 0 := ⟨_, rfl⟩
                  rw [← hX] at hts hc2
                  have HTS := hid hts
                  clear hts hX
                  by_cases hx : X = 0
                  · subst hx
                    go_wp2
                    refine ⟨⟨s + 1, l, by omega, by go_num, hF, by omega, hid ?_, hbk⟩, by simp [intOf]; omega⟩
                    rw [HTS.out, hl4.out]; simp
                  · have hx2 : (X != 0) = true := by simpa using hx
                    have HX := hid hx
                    clear hx
                    obtain ⟨va, vc, rfl⟩ := hF.slice
                    obtain ⟨L, hL⟩ : ∃ L, L = l.length := ⟨_, rfl⟩
                    have HL := hid hL
                    have HF := hid (show wr.ownsRow w.heap.size 25 3 (.slice va L vc) L (fltVals l) by rw [hL]; exact hF)
                    have HBK := hid hbk
                    rw [← hL] at hll ⊢
                    have M1 := hid (show L + 1 ≤ maxLen by unfold maxLen; omega)
                    have M2 := hid (show (L + 1) * 24 ≤ 140737488355328 by omega)
                    have M3 := hid (show w.heap.size ≤ (wr.alloc (.cells (fltCells ⟨3, (i : Int), (s : Int)⟩).toArray 25)).heap.size by have := hbk.size; simp; omega)
                    clear hF hbk hL
                    go_wp2_with (at_builtin; refine wpList_app _ rfl (.tmp 52) (.tmp 56) 36 rfl w.heap.size 25 (.agg #[.int .i64 0, .int .i64 0, .int .i64 0]) 3 24 Tryz.underlying36 info_fault rfl (by decide) (.slice va L vc) L _ rfl (HF.out.alloc _) (some ⟨wr.heap.size, 0, none⟩) 1 1 (fltCells ⟨3, (i : Int), (s : Int)⟩) rfl rfl no_none (flt_newsA wr ⟨3, (i : Int), (s : Int)⟩ _) (flt_one _) M1.out M2.out M3.out ?_; refine Stop.of ?_)
                    refine Stop.go ?_
                    intro a3 c3 w3 own3 g3
                    have hb3 : Below w.heap.size w w3 := (HBK.out.alloc HBK.out.size _).grown g3 M3.out (fun q hq => (HF.out.lt q hq).1)
                    go_wp2
                    refine ⟨⟨s + 1, _, by omega, by go_num, FltsO.snoc HL.out.symm own3, by rw [List.length_append, ← HL.out]; simp; omega, hid ?_, hb3⟩, by simp [intOf]; omega⟩
                    rw [HTS.out, if_neg HX.out, hl4.out, List.append_assoc]
                · obtain rfl : s = rn := by omega
                  go_wp2
                  refine ⟨⟨i + 1, l, by omega, by go_num, hF, by omega, hid ?_, hbk⟩, by simp [intOf]; omega⟩
                  rw [List.range_succ, List.flatMap_append, ← List.append_assoc, ← hl3.out, hl4.out]
                  simp [HTF.out]
            · obtain rfl : i = k := by omega
              go_wp2
              go_ret
              refine ⟨_, w.heap.size, rfl, Nat.le_refl _, ?_, hbk⟩
              have e : C = listF M := by
                rw [hl3.out, hl2.out, hl.out]; unfold listF; rw [HN.out, HCO.out]
              rw [← e]; exact hF
end Go.Proofs.YthaampmdponhbaaGreatDoor

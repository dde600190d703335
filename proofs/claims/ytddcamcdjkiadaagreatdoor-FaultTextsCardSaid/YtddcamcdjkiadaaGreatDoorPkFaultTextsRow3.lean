/- Walks and plain laws for FaultTextsRow, part 3. -/
import Derived.WalkSpells
import Derived.Maps.AppendAt
import Derived.BigRegion
import Derived.Maps.RangeWalk
import Derived.Lib.Strings
import Derived.Lib.SliceRun
import Derived.Test.YtddcamcdjkiadaaGreatDoorShelfB
import Derived.Test.YtddcamcdjkiadaaGreatDoorPkFaultTextsRow2
namespace Go.Proofs.YtddcamcdjkiadaaGreatDoor
open Go.RowKit Go.Maps
set_option linter.unusedVariables false
attribute [local go_sem] Oper.semAt_some

def fltCells (f : Flt) : List Value := [.int .i64 f.kind, .int .i64 f.row, .int .i64 f.pixel]
def fltVals (l : List Flt) : List Value := l.flatMap fltCells
theorem fltVals_snoc (l : List Flt) (f : Flt) : fltVals (l ++ [f]) = fltVals l ++ fltCells f := by simp [fltVals]
theorem fltVals_at (l : List Flt) : ∀ (j i : Nat) (hj : j < l.length), i < 3 → (fltVals l)[j * 3 + i]? = (fltCells l[j])[i]? := by
  induction l with
  | nil => intro j i hj; simp at hj
  | cons f l ih =>
    intro j i hj hi
    show (fltCells f ++ fltVals l)[j * 3 + i]? = _
    cases j with
    | zero => rw [List.getElem?_append_left (by simp [fltCells]; omega)]; simp
    | succ j =>
      rw [List.getElem?_append_right (by simp [fltCells]; omega)]
      have := ih j i (by simpa using hj) hi
      rw [show (j + 1) * 3 + i - (fltCells f).length = j * 3 + i by simp [fltCells]; omega, this]
      simp

def FltsAt (w : World) (a : Option Addr) (l : List Flt) : Prop :=
  ∀ j (hj : j < l.length), ∃ b off, a = some ⟨b, off, none⟩ ∧ b < w.heap.size ∧ w.cell? ⟨b, off + j * 3, none⟩ = some (.int .i64 l[j].kind) ∧ w.cell? ⟨b, off + j * 3 + 1, none⟩ = some (.int .i64 l[j].row) ∧ w.cell? ⟨b, off + j * 3 + 2, none⟩ = some (.int .i64 l[j].pixel)
theorem FltsAt.below {w w' : World} {a : Option Addr} {l : List Flt} (h : FltsAt w a l) (hb : Below w.heap.size w w') : FltsAt w' a l := by
  intro j hj
  obtain ⟨b, off, e, hlt, h0, h1, h2⟩ := h j hj
  exact ⟨b, off, e, Nat.lt_of_lt_of_le hlt hb.size, (hb.cell (p := ⟨b, _, none⟩) hlt).trans h0, (hb.cell (p := ⟨b, _, none⟩) hlt).trans h1, (hb.cell (p := ⟨b, _, none⟩) hlt).trans h2⟩

def FltsO (W : World) (base : Nat) (v : Value) (l : List Flt) : Prop := W.ownsRow base 113 3 v l.length (fltVals l)
theorem FltsO.nil (W : World) (base : Nat) : FltsO W base (.slice none 0 0) [] := World.ownsRow_nil _ _ _ _
theorem FltsO.keep {S : Nat → Prop} {W W' : World} {base : Nat} {v : Value} {l : List Flt} (h : FltsO W base v l) (hk : Keep S W W') (h1 : ∀ k, base ≤ k → S k) : FltsO W' base v l := by
  refine ⟨h.1, ?_⟩
  rcases h.2 with hn | ⟨g, cap, cur, rfl, hbg, hgg, rest⟩
  · exact .inl hn
  · exact .inr ⟨g, cap, cur, rfl, hbg, (hk.block g (Array.getElem?_eq_some_iff.1 hgg).1 (h1 g hbg)).trans hgg, rest⟩
theorem FltsO.below {W W' : World} {base : Nat} {v : Value} {l : List Flt} (h : FltsO W base v l) (hb : Below W.heap.size W W') : FltsO W' base v l :=
  h.keep (S := fun _ => True) (Keep.of_below hb) (fun _ _ => trivial)
theorem FltsO.reads {W : World} {base : Nat} {v : Value} {l : List Flt} (h : FltsO W base v l) : ∃ a cap, v = .slice a l.length cap ∧ l.length ≤ maxLen ∧ FltsAt W a l := by
  rcases h.2 with ⟨rfl, h0⟩ | ⟨g, cap, cur, rfl, hbg, hgg, hnc, hcm, hsz, htk⟩
  · exact ⟨none, 0, by rw [h0], by rw [h0]; decide, fun j hj => by omega⟩
  · refine ⟨_, cap, rfl, by omega, fun j hj => ⟨g, 0, rfl, (Array.getElem?_eq_some_iff.1 hgg).1, ?_⟩⟩
    have hc : ∀ i, i < l.length * 3 → W.cell? ⟨g, i, none⟩ = (fltVals l)[i]? := fun i hi =>
      World.ownsRow.cellAt (w := W) (base := base) (e := 113) (size := 3) (g := g) (n := l.length) (cap := cap) (xs := fltVals l) ⟨h.1, .inr ⟨g, cap, cur, rfl, hbg, hgg, hnc, hcm, hsz, htk⟩⟩ i hi
    refine ⟨?_, ?_, ?_⟩
    · rw [Nat.zero_add, hc _ (by omega)]; exact fltVals_at l j 0 hj (by omega)
    · rw [Nat.zero_add, hc _ (by omega)]; exact fltVals_at l j 1 hj (by omega)
    · rw [Nat.zero_add, hc _ (by omega)]; exact fltVals_at l j 2 hj (by omega)

theorem info_fault : (Tryz.prog.info? 113).map (fun i => (i.zero, i.size, i.bytes)) = some (some (.agg #[.int .i64 0, .int .i64 0, .int .i64 0]), 3, 24) := by kernel_rfl

theorem each_c (a : Option Addr) (n cap : Nat) (w : World) : Calls Tryz.prog 83 #[.slice a n cap] w
    fun e w' => e = .returned (.func (.func 114) #[] #[.pointer (some ⟨w.heap.size, 0, none⟩)]) ∧ w' = w.alloc (.cells #[.slice a n cap] 35) := by
  have hmf : ∀ (fn : Fn) (first cap : Array Value) (w : World), (Instr.makeFunc fn first cap).run Tryz.prog w = .ok (.func fn first cap) w := fun _ _ _ _ => rfl
  go_enter Tryz.func83, Tryz.ntmps83
  go_wp2
  go_ret
  exact ⟨rfl, rfl⟩

theorem cell_blocks {W W' : World} {b o : Nat} {v : Value} (h : W.cell? ⟨b, o, none⟩ = some v) (hk : W'.heap[b]? = W.heap[b]?) : W'.cell? ⟨b, o, none⟩ = some v :=
  (World.cell?_of_block (a := ⟨b, o, none⟩) hk).trans h
theorem lt_blocks {W W' : World} {b : Nat} (h : b < W.heap.size) (hk : W'.heap[b]? = W.heap[b]?) : b < W'.heap.size := by
  rcases Nat.lt_or_ge b W'.heap.size with h' | h'
  · exact h'
  · rw [Array.getElem?_eq_none h', Array.getElem?_eq_getElem h] at hk; cases hk
theorem IntsAt.blocks {W W' : World} {a : Option Addr} {l : List Int} (h : IntsAt W a l) (hk : ∀ k, k < W.heap.size → W'.heap[k]? = W.heap[k]?) : IntsAt W' a l := by
  intro j hj
  obtain ⟨b, off, e, hb, hc⟩ := h j hj
  exact ⟨b, off, e, lt_blocks hb (hk b hb), cell_blocks hc (hk b hb)⟩
theorem RowsAt.blocks {W W' : World} {a : Option Addr} {l : List (List Int)} (h : RowsAt W a l) (hk : ∀ k, k < W.heap.size → W'.heap[k]? = W.heap[k]?) : RowsAt W' a l := by
  intro j hj
  obtain ⟨b, off, ra, n, cap, e, hb, hc, h1, h2, h3⟩ := h j hj
  exact ⟨b, off, ra, n, cap, e, lt_blocks hb (hk b hb), cell_blocks hc (hk b hb), h1, h2, h3.blocks hk⟩

theorem boxed_below {W W' : World} {b : Nat} {T : TypeId} {v : Value} (h : Boxed W b T v) (hb : Below W.heap.size W W') : Boxed W' b T v := (hb.block b h.lt).trans h

def metB (M : Mask) (xs : List Flt) (s : List UInt8) : Bool := xs.any (fun f => decide (textM (faultyM M f) = s))

theorem met_iff {M : Mask} (hM : okM M = true) {xs : List Flt} (hx : ∀ f ∈ xs, okF M f = true) {f : Flt} (hf : okF M f = true) :
    metB M xs (textM (faultyM M f)) = (allTo M xs).any (fun g => decide (faultyM M g = faultyM M f)) := by
  rw [Bool.eq_iff_iff]
  unfold metB
  simp only [List.any_eq_true, decide_eq_true_eq]
  constructor
  · rintro ⟨g, hg, e⟩
    obtain ⟨k, hk, e2⟩ := allTo_has (M := M) hg
    exact ⟨k, hk, e2.trans (textM_inj (okM_faulty hM (hx g hg)).1 (okM_faulty hM hf).1 e)⟩
  · rintro ⟨g, hg, e⟩
    exact ⟨g, allTo_mem hg, by rw [e]⟩

theorem textM_len {M : Mask} (h : okM M = true) : (textM M).length ≤ 66 := by
  obtain ⟨_, m6, _, c10, hrows⟩ := okM_len h
  unfold textM
  rw [if_pos h]
  have := fmtM_length M 10 (fun r hr => by rw [(hrows r hr).1]; exact c10)
  calc (fmtM M).length ≤ M.length * (10 + 1) := this
    _ ≤ 6 * 11 := Nat.mul_le_mul m6 (Nat.le_refl _)

def AxAll (L : Nat) (tm : Value → Value → Array Value) (x : Value) (a' : Act) (W : World) : Prop :=
  ∃ (f : Flt) (q : Nat), x = f.val ∧ a' = { tmps := tm (.pointer (some ⟨q, 0, none⟩)) f.val, defers := [] } ∧ L + 2 ≤ q ∧ W.heap[q]? = some (.cells (fltCells f).toArray 113 (0, 0))
theorem Flt.val_inj {f g : Flt} (h : f.val = g.val) : f = g := by
  obtain ⟨a, b, c⟩ := f
  obtain ⟨a', b', c'⟩ := g
  simp only [Flt.val] at h
  simp at h
  obtain ⟨rfl, rfl, rfl⟩ := h
  rfl
theorem pre_at {L : List Flt} {pre : List Value} {x : Value} (h : pre ++ [x] <+: L.map Flt.val) : ∃ hk : pre.length < L.length, x = Flt.val L[pre.length] := by
  obtain ⟨t, ht⟩ := h
  have h1 := congrArg List.length ht
  simp at h1
  have hlt : pre.length < L.length := by omega
  refine ⟨hlt, ?_⟩
  have h2 := congrArg (fun l => l[pre.length]?) ht
  simp only [List.append_assoc] at h2
  rw [List.getElem?_append_right (Nat.le_refl _), List.getElem?_map, List.getElem?_eq_getElem hlt] at h2
  simpa using h2
theorem flt_cells {W : World} {q : Nat} {f : Flt} {T : TypeId} (h : W.heap[q]? = some (.cells (fltCells f).toArray T (0, 0))) : W.cell? ⟨q, 0, none⟩ = some (.int .i64 f.kind) ∧ W.cell? ⟨q, 1, none⟩ = some (.int .i64 f.row) ∧ W.cell? ⟨q, 2, none⟩ = some (.int .i64 f.pixel) := by
  refine ⟨?_, ?_, ?_⟩ <;> simp [World.cell?, h, fltCells]
theorem alloc_cells (w : World) (cs : Array Value) (T : TypeId) : (w.alloc (.cells cs T)).heap[w.heap.size]? = some (.cells cs T (0, 0)) := World.alloc_heap_new w _
theorem flt_news (w : World) (f : Flt) (T : TypeId) : ∀ j u, (fltCells f)[j]? = some u → (w.alloc (.cells (fltCells f).toArray T)).cell? ((⟨w.heap.size, 0, none⟩ : Addr).add j) = some u := by
  intro j u hu
  rw [Addr.add_lit, World.cell?_alloc_at _ _ _ _ rfl]
  simpa using hu
theorem flt_one (f : Flt) : ∀ u ∈ fltCells f, u.oneCell' = true := by
  intro u hu
  simp only [fltCells, List.mem_cons, List.not_mem_nil, or_false] at hu
  rcases hu with rfl | rfl | rfl <;> rfl
theorem map_keep {P : Program} {k : TypeId} {R : Value → Option (DataW Unit × List MemPlace)} {S : Nat → Prop} {W W' : World} {b n : Nat} {D : DataW Unit} (h : W.ownsMap P k R b n D) (hk : Keep S W W') (hS : S b) : W'.ownsMap P k R b n D := by
  obtain ⟨es, clock, hb, F, q1, q2⟩ := h
  exact ⟨es, clock, (hk.block _ (Array.getElem?_eq_some_iff.1 hb).1 hS).trans hb, F, q1, q2⟩

set_option maxRecDepth 100000 in
set_option maxHeartbeats 4000000 in
theorem all_c (w : World) (a : Option Addr) (n cap : Nat) (M : Mask) (hn : M.length = n) (H : RowsAt w a M) (hM : okM M = true) :
    Calls Tryz.prog 49 #[.slice a n cap] w fun e w' => ∃ v base, e = .returned v ∧ w.heap.size ≤ base ∧ FltsO w' base v (allF M) ∧ Below w.heap.size w w' := by
  have HN := hid hn
  have HH := hid H
  have HM := hid hM
  have hmm := @run_makeMap Tryz.prog
  obtain ⟨i0, hi, hz0, hz1, hz2⟩ := info_parts info_fault
  clear hn H hM
  refine callsIn_wide (n := 0) |>.1 ?_
  refine callsIn_of_wp_marks Tryz.func49 rfl trivial ?_ rfl
  simp only [Tryz.ntmps49, List.size_toArray, List.length_cons, List.length_nil, Nat.reduceAdd, Nat.reduceSub, Array.replicate_succ, Array.replicate_zero, List.push_toArray, List.append_toArray, List.nil_append, List.cons_append]
  gi_wp2_with (refine ⟨trivial, rfl, ?_⟩; gi_at_call 83; refine (callsIn_wide.2 (each_c _ _ _ _)).mono ?_; rintro e w' ⟨rfl, rfl⟩)
  obtain ⟨s, hs⟩ : ∃ s, s = w.heap.size := ⟨_, rfl⟩
  rw [← hs]
  obtain ⟨w3, hw3⟩ : ∃ w3, w3 = ((w.alloc (.cells #[.slice a n cap] 35)).alloc (.cells #[.slice none 0 0] 45)).alloc (.map #[] 0) := ⟨_, rfl⟩
  have hz3 : w3.heap.size = s + 3 := by rw [hw3, hs]; simp
  have hmade : w3.ownsMap Tryz.prog 9 (plainElem (H := Unit) Tryz.prog 4) (s + 2) 0 (.map []) := by
    have := World.ownsMap_made (H := Unit) ((w.alloc (.cells #[.slice a n cap] 35)).alloc (.cells #[.slice none 0 0] 45)) Tryz.prog 9 (plainElem Tryz.prog 4)
    rw [hw3, hs]
    simpa using this
  have hB0 : Boxed w3 s 35 (.slice a n cap) := by
    rw [hw3, hs]; exact ((Boxed.new w 35 (.slice a n cap)).alloc _).alloc _
  have hB1 : Boxed w3 (s + 1) 45 (.slice none 0 0) := by
    have := Boxed.new (w.alloc (.cells #[.slice a n cap] 35)) 45 (.slice none 0 0)
    rw [World.size_alloc, ← hs] at this
    rw [hw3]; exact this.alloc _
  have hb3 : Below s w w3 := by rw [hw3, hs]; exact (((Below.refl _ w).alloc (Nat.le_refl _) _).alloc (by simp) _).alloc (by simp; omega) _
  rw [← hw3]
  obtain ⟨wL, hwL⟩ : ∃ wL, wL = (w3.alloc (.cells #[.map (some (s + 2))] 109)).alloc (.cells #[.slice a n cap] 35) := ⟨_, rfl⟩
  have hzL : wL.heap.size = s + 5 := by rw [hwL]; simp [hz3]
  have hb3L : Below w3.heap.size w3 wL := by rw [hwL]; exact ((Below.refl _ w3).alloc (Nat.le_refl _) _).alloc (by simp) _
  have hbL : Below s w wL := hb3.trans (hb3L.mono (by omega))
  have hL0 : Boxed wL s 35 (.slice a n cap) := boxed_below hB0 hb3L
  have hL1 : Boxed wL (s + 1) 45 (.slice none 0 0) := boxed_below hB1 hb3L
  have hL2 : wL.ownsMap Tryz.prog 9 (plainElem (H := Unit) Tryz.prog 4) (s + 2) 0 (.map []) := by rw [hwL]; exact (hmade.alloc _).alloc _
  have hL3 : Boxed wL (s + 3) 109 (.map (some (s + 2))) := by
    have := Boxed.new w3 109 (.map (some (s + 2)))
    rw [hz3] at this
    rw [hwL]; exact this.alloc _
  have hL4 : Boxed wL (s + 4) 35 (.slice a n cap) := by
    have := Boxed.new (w3.alloc (.cells #[.map (some (s + 2))] 109)) 35 (.slice a n cap)
    rw [World.size_alloc, hz3] at this
    rw [hwL]; exact this
  have hHL : RowsAt wL a M := HH.out.below (by rw [← hs]; exact hbL)
  rw [show s + 1 + 1 + 1 + 1 = s + 4 from rfl, show s + 1 + 1 + 1 = s + 3 from rfl, show s + 1 + 1 = s + 2 from rfl]
  rw [← hwL]
  have hHS := HH.out
  have hall := every_240 HM.out
  have HS := hid hs
  have HHL := hid hHL
  clear hwL hw3 hs hmm hHS hHL
  refine range_vals (gf := 114) (lb := #[.pointer (some ⟨s + 4, 0, none⟩)]) (xs := (everyF M).map Flt.val) (fp := fun k => k < s ∨ k = s + 4) (w0 := wL) rfl (enters_of Tryz.func114 (by kernel_rfl) rfl)
    (iter_faults wL (s + 4) a n cap M HN.out HHL.out HM.out (by omega) hL4.cell s (by omega) (Below.refl _ _) ?hold) (Below.refl _ _) (by intro k hk; omega)
    (fun pre W => ∃ v D, Boxed W (s + 1) 45 v ∧ Boxed W (s + 3) 109 (.map (some (s + 2))) ∧ Boxed W s 35 (.slice a n cap) ∧ Below s w W ∧ FltsO W (s + 7) v (allTo M ((everyF M).take pre.length)) ∧ MapSB D (metB M ((everyF M).take pre.length)) ∧ W.ownsMap Tryz.prog 9 (plainElem (H := Unit) Tryz.prog 4) (s + 2) pre.length D)
    (fun _ _ _ => False) ?hI (fun _ _ _ _ h _ => h) ?h0
    (AxAll (s + 5) (fun p x => #[.slice a n cap, .pointer (some ⟨s, 0, none⟩), .slice none 0 0, .pointer (some ⟨s + 1, 0, none⟩), .pointer (some ⟨s + 3, 0, none⟩), p, undef, .map (some (s + 2)), .slice a n cap, .func (.func 114) #[] #[.pointer (some ⟨s + 4, 0, none⟩)], x, undef, undef, undef, undef, undef, undef, undef, undef, undef, undef, undef, undef, undef, undef, undef])) ?hAx ?assign ?body ?done ?stop
  case hold =>
    intro W hk
    exact HH.out.blocks fun k hlt => by rw [← HS.out] at hlt; exact (hk k (.inl hlt)).trans (hbL.block k hlt)
  case hI =>
    rintro st A B ⟨v, D, h1, h3, h0, hb, hF, hD, hown⟩ hsz hk
    rw [hzL] at hsz hk
    exact ⟨v, D, (hk.block _ h1.lt (by omega)).trans h1, (hk.block _ h3.lt (by omega)).trans h3, (hk.block _ h0.lt (by omega)).trans h0, hk.below hb (by have := hb.size; have := HS.out; omega) (fun k _ => by omega), hF.keep hk (fun k hk => by omega), hD, map_keep hown hk (by omega)⟩
  case h0 =>
    intro W hk hsz
    have hbW : Below wL.heap.size wL W := ⟨hk.os, hk.tape, hk.output, hk.size, fun k h => hk.block k h h⟩
    exact ⟨.slice none 0 0, .map [], boxed_below hL1 hbW, boxed_below hL3 hbW, boxed_below hL0 hbW, hbL.trans (hbW.mono (by omega)), FltsO.nil _ _, MapSB.nil, map_keep hL2 (Keep.of_below hbW : Keep (fun _ => True) _ _) trivial⟩
  case hAx =>
    rintro x a' A B ⟨f, q, e1, e2, hq, hc⟩ hk
    rw [hzL] at hk
    exact ⟨f, q, e1, e2, hq, (hk.block q (Array.getElem?_eq_some_iff.1 hc).1 (by omega)).trans hc⟩
  case assign =>
    intro l pre x W K hpre hsz hK
    obtain ⟨hk, rfl⟩ := pre_at hpre
    obtain ⟨f, hf⟩ : ∃ f, f = (everyF M)[pre.length] := ⟨_, rfl⟩
    rw [hzL] at hsz
    rw [← hf] at hK ⊢
    have HK := hid (hK { tmps := (fun p x => #[.slice a n cap, .pointer (some ⟨s, 0, none⟩), .slice none 0 0, .pointer (some ⟨s + 1, 0, none⟩), .pointer (some ⟨s + 3, 0, none⟩), p, undef, .map (some (s + 2)), .slice a n cap, .func (.func 114) #[] #[.pointer (some ⟨s + 4, 0, none⟩)], x, undef, undef, undef, undef, undef, undef, undef, undef, undef, undef, undef, undef, undef, undef, undef]) (.pointer (some ⟨W.heap.size, 0, none⟩)) f.val, defers := [] } (W.alloc (.cells (fltCells f).toArray 113)) ((Below.refl _ W).alloc (Nat.le_refl _) _) ⟨f, W.heap.size, rfl, rfl, by omega, alloc_cells _ _ _⟩)
    obtain ⟨kind, row, pixel⟩ := f
    simp only [Flt.val, fltCells] at HK ⊢
    clear hK hf hk hpre
    gi_wp2
    exact HK.out
  case body =>
    rintro l' pre x a' W hpre ⟨v, D, h1, h3, h0, hBW, hF, hD, hown⟩ ⟨f, q, e1, rfl, hq, hqc⟩ hWsz hDo hLo
    obtain ⟨hk, e2⟩ := pre_at hpre
    obtain rfl : f = (everyF M)[pre.length] := Flt.val_inj (e1.symm.trans e2)
    have hok := every_ok (List.getElem_mem hk)
    have htk : (everyF M).take (pre.length + 1) = (everyF M).take pre.length ++ [(everyF M)[pre.length]] := List.take_succ_eq_append_getElem hk
    have hokT : ∀ g ∈ (everyF M).take pre.length, okF M g = true := fun g hg => every_ok (List.mem_of_mem_take hg)
    have hmet := met_iff HM.out hokT hok
    have hsnoc := allTo_snoc M ((everyF M).take pre.length) (everyF M)[pre.length]
    rw [← htk] at hsnoc
    have hLm : pre.length + 1 ≤ 240 := by omega
    have hal := allTo_length M ((everyF M).take pre.length)
    rw [List.length_take] at hal
    have hal2 : (allTo M ((everyF M).take pre.length)).length ≤ 240 := by omega
    have HRW := hid (HH.out.below (by rw [← HS.out]; exact hBW))
    have HFa := hid (faulty_c W a n cap M HN.out HRW.out HM.out (everyF M)[pre.length] hok)
    obtain ⟨f, hf⟩ : ∃ f, f = (everyF M)[pre.length] := ⟨_, rfl⟩
    rw [← hf] at hok hmet hsnoc HFa hqc htk
    rw [← hf]
    obtain ⟨okf, colf⟩ := okM_faulty HM.out hok
    have hrl : ∀ r ∈ faultyM M f, r.length ≤ maxLen := fun r hr => by have := ((okM_len okf).2.2.2.2 r hr).1; have := (okM_len okf).2.2.2.1; unfold maxLen; omega
    have HFm := hid (fun (W' : World) (va : Option Addr) (vc : Nat) (hv : RowsAt W' va (faultyM M f)) => maskFormat_c W' va n vc (faultyM M f) (by rw [faultyM_row]; exact HN.out) (by have := (okM_len HM.out).2.1; have := HN.out; unfold maxLen; omega) hv)
    have hfr : (faultyM M f).length = n := by rw [faultyM_row]; exact HN.out
    have htl := textM_len okf
    obtain ⟨Mf, hMf⟩ : ∃ Mf, Mf = faultyM M f := ⟨_, rfl⟩
    rw [← hMf] at HFa HFm hmet hrl hfr htl hsnoc
    obtain ⟨S, hS⟩ : ∃ S : ByteArray, S = ⟨(textM Mf).toArray⟩ := ⟨_, rfl⟩
    have hSt : S.data.toList = textM Mf := by rw [hS]
    have hSz : S.size ≤ maxLen := by rw [hS]; unfold maxLen; simp [ByteArray.size]; omega
    rw [← hS] at HFm
    rw [← hSt] at hmet
    obtain ⟨q0, q1, q2⟩ := flt_cells hqc
    obtain ⟨XS, hXS⟩ : ∃ XS, XS = (everyF M).take pre.length := ⟨_, rfl⟩
    rw [← hXS] at hmet hsnoc hF hD htk hal2
    obtain ⟨A, hA⟩ : ∃ A, A = allTo M XS := ⟨_, rfl⟩
    rw [← hA] at hmet hsnoc hF hal2
    obtain ⟨B, hB⟩ : ∃ B, B = metB M XS S.data.toList := ⟨_, rfl⟩
    have hD' : MapSB (D.put (.string S.data.toList) (.lit (.bool true))) (metB M (XS ++ [f])) := by
      have h9 := hD.put S.data.toList true
      refine ⟨h9.1, fun t => ?_⟩
      rw [h9.2 t]
      congr 2
      unfold metB
      rw [List.any_append]
      simp only [List.any_cons, List.any_nil, Bool.or_false]
      rw [← hMf, hSt]
      by_cases e : t = textM Mf
      · subst e; simp
      · simp [e, Ne.symm e]
    rw [← hB] at hmet
    rw [← htk] at hD'
    have hRW0 : ∀ k, k < s ∨ k = s + 4 ∨ k = s + 5 ∨ k = s + 6 → k < W.heap.size := fun k hk => by rw [hzL] at hWsz; omega
    rw [hzL] at hDo hLo hWsz ⊢
    have HQC := hid hqc
    have HF := hid hF
    have HD := hid hD
    have HD2 := hid hD'
    have HOwn := hid hown
    have HB := hid hB
    have HBW := hid hBW
    have HSn := hid hsnoc
    have HMet := hid hmet
    have HTK := hid htk
    have HFR := hid hfr
    have HRL := hid hrl
    have H1 := hid h1
    have H3 := hid h3
    have H0 := hid h0
    have HSZ := hid hSz
    have c0 := h0.cell
    have HR0 := hid hRW0
    have hlen : ∀ y : Value, (pre ++ [y]).length = pre.length + 1 := fun y => by simp
    have HLEN := hid hlen
    have HA2 := hid hal2
    have hpreL := hid hLm
    clear hqc hF hD hD' hown hB hBW hsnoc hmet htk hfr hrl h1 h3 h0 hSz hRW0 hS hSt hMf hXS hA hal hal2 hokT hpre e1 e2 hk hok okf colf htl hf hDo hLo hlen hLm
    obtain ⟨kind, row, pixel⟩ := f
    simp only [Flt.val] at HFa ⊢
    simp only [] at q0 q1 q2
    gi_wp2_with (refine ⟨trivial, rfl, ?_⟩; gi_at_call 85; refine (CallsIn.inRound l' (callsIn_wide.2 HFa.out)).mono ?_; rintro e w1 ⟨fv, fbase, rfl, hfbase, hfo, hb1⟩; refine Stop.of ?_)
    refine Stop.go ?_
    obtain ⟨fa, fc, rfl, hfrows⟩ := hfo.rows HRL.out
    have HFm1 := hid (HFm.out w1 fa fc hfrows)
    rw [HFR.out]
    clear hfo hfrows hfbase
    gi_wp2_with (refine ⟨trivial, rfl, ?_⟩; gi_at_call 84; refine (CallsIn.inRound l' (callsIn_wide.2 HFm1.out)).mono ?_; rintro e w2 ⟨rfl, hb2⟩; refine Stop.of ?_)
    refine Stop.go ?_
    have hbW2 : Below W.heap.size W w2 := chain hb1 hb2
    have H12 := hid (boxed_below H1.out hbW2)
    have H32 := hid (boxed_below H3.out hbW2)
    have c3 := H32.out.cell
    have c1 := H12.out.cell
    have HOwn2 := hid (map_keep (S := fun _ => True) HOwn.out (Keep.of_below hbW2) trivial)
    have HF2 := hid (HF.out.below hbW2)
    have HQ2 := hid ((hbW2.block q (Array.getElem?_eq_some_iff.1 HQC.out).1).trans HQC.out)
    obtain ⟨p0, p1, p2⟩ := flt_cells HQ2.out
    simp only [] at p0 p1 p2
    clear q0 q1 q2 c0 hb1 hb2
    gi_wp2_with (gi_at_lookup; refine wpListIn_lookup_sb _ rfl _ _ 109 rfl 9 4 Tryz.underlying9 Tryz.underlying109 Tryz.underlying4 (Tryz.zeroValue4 _) (s + 2) _ D _ HD.out rfl HOwn2.out S rfl HSZ.out ?_; rw [← HB.out]; refine Stop.of ?_)
    refine Stop.go ?_
    have HPL := hid (show pre.length < maxLen from by have := hpreL.out; unfold maxLen; omega)
    have hs2 := hbW2.size
    cases B
    · have HR2 := hid (show w2.ownsRow (s + 7) 113 3 v A.length (fltVals A) from HF2.out)
      have M1 := hid (show A.length + 1 ≤ maxLen by have := HA2.out; unfold maxLen; omega)
      have M2 := hid (show (A.length + 1) * 24 ≤ 140737488355328 by have := HA2.out; omega)
      have M3 := hid (show s + 7 ≤ (w2.alloc (.cells (fltCells ⟨kind, row, pixel⟩).toArray 113)).heap.size by simp; omega)
      gi_wp2_with (gi_at_builtin; refine wpListIn_append_own _ rfl _ _ 45 rfl (s + 7) 113 i0 (.agg #[.int .i64 0, .int .i64 0, .int .i64 0]) 3 24 Tryz.underlying45 hi hz0 hz1 hz2 rfl (by decide) v _ _ rfl (HR2.out.alloc _) ⟨w2.heap.size, 0, none⟩ 1 1 (fltCells ⟨kind, row, pixel⟩) rfl rfl (flt_news w2 ⟨kind, row, pixel⟩ _) (flt_one _) M1.out M2.out M3.out ?_; refine Stop.of ?_)
      refine Stop.go ?_
      intro v3 w3 own3 g3 _
      obtain ⟨a3, c3, rfl⟩ := ownsRow_slice own3
      have hnb : ∀ k, v.ownBlock = some k → s + 7 ≤ k := fun k hk => (HR2.out.lt k hk).1
      have hK23 : Keep (fun k => k < s + 7) w2 w3 := by
        have k1 : Keep (fun k => k < s + 7) w2 (w2.alloc (.cells (fltCells ⟨kind, row, pixel⟩).toArray 113)) := Keep.of_below ((Below.refl _ w2).alloc (Nat.le_refl _) _)
        exact k1.trans ((Keep.grown g3).mono fun k hk e => by have := hnb k e.symm; omega)
      have H13 : Boxed w3 (s + 1) 45 v := (hK23.block _ H12.out.lt (by omega)).trans H12.out
      have H33 : Boxed w3 (s + 3) 109 (.map (some (s + 2))) := (hK23.block _ H32.out.lt (by omega)).trans H32.out
      have HOwn3 := map_keep HOwn2.out hK23 (by omega)
      have d1 := H13.cell
      have d2 := H13.frozen
      have d3 := H33.cell
      have hK4 : Keep (fun k => k ≠ s + 1) w3 (w3.setCell ⟨s + 1, 0, none⟩ (.slice a3 (A.length + 1) c3)) := Keep.set w3 (s + 1) 0 (.slice a3 (A.length + 1) c3)
      have HOwn4 := hid (map_keep HOwn3 hK4 (by omega))
      have H14 : Boxed (w3.setCell ⟨s + 1, 0, none⟩ (.slice a3 (A.length + 1) c3)) (s + 1) 45 (.slice a3 (A.length + 1) c3) := by
        have := cells_set H13 0 (.slice a3 (A.length + 1) c3)
        simpa [Boxed] using this
      have HB14 := hid H14
      have HK4 := hid hK4
      have HK23 := hid hK23
      have HO3 := hid own3
      have HW4 := hid (show (w3.setCell ⟨s + 1, 0, none⟩ (.slice a3 (A.length + 1) c3)).heap.size = w3.heap.size from by simp [World.setCell])
      clear HOwn3 H13 H33 hK4 hK23 H14 own3 g3 hnb p0 p1 p2 c1
      gi_wp2_with (gi_at_mapUpdate; refine wpListIn_mapUpdate_own _ rfl _ _ _ 109 rfl 9 4 (string_keyed Tryz.underlying9) Tryz.underlying109 _ (s + 2) _ D rfl HOwn4.out HPL.out _ _ _ rfl rfl (keyS Tryz.underlying9 HSZ.out) _ [] (plainElem_bool Tryz.underlying4 true) ?_; refine Stop.of ?_)
      refine Stop.go ?_
      intro w5 hown5 hg5
      have K5 : Keep (fun k => k ≠ s + 2) (w3.setCell ⟨s + 1, 0, none⟩ (.slice a3 (A.length + 1) c3)) w5 := (Keep.grown hg5).mono fun k hk e => hk (by simpa using e)
      have KA : Keep (fun k => k < s + 7 ∧ k ≠ s + 1 ∧ k ≠ s + 2) W w5 :=
        ((Keep.of_below hbW2).trans (HK23.out.mono fun k hk => hk.1)).trans ((HK4.out.mono fun k hk => hk.2.1).trans (K5.mono fun k hk => hk.2.2))
      gi_wp2
      refine ⟨KA.size, ?_, Value.slice a3 (A.length + 1) c3, D.put (.string S.data.toList) (.lit (.bool true)), ?_, ?_, ?_, ?_, ?_, ?_, ?_⟩
      · rintro k hk
        exact KA.block k (HR0.out k (by rcases hk with (h | h) | h | h <;> omega)) (by rcases hk with (h | h) | h | h <;> omega)
      · exact (K5.block (s + 1) HB14.out.lt (by omega)).trans HB14.out
      · exact (KA.block (s + 3) H3.out.lt (by omega)).trans H3.out
      · exact (KA.block s H0.out.lt (by omega)).trans H0.out
      · exact HBW.out.trans ⟨KA.os, KA.tape, KA.output, KA.size, fun k hk => KA.block k (HR0.out k (.inl hk)) (by omega)⟩
      · rw [HLEN.out _, HSn.out, if_neg (by rw [← HMet.out]; simp)]
        have e1 : FltsO w3 (s + 7) (.slice a3 (A.length + 1) c3) (A ++ [⟨kind, row, pixel⟩]) := by
          unfold FltsO
          rw [fltVals_snoc, List.length_append]
          exact HO3.out
        exact (e1.keep HK4.out (fun k hk => by omega)).keep K5 (fun k hk => by omega)
      · rw [HLEN.out _]; exact HD2.out
      · rw [HLEN.out _]; exact hown5
    · gi_wp2_with (gi_at_mapUpdate; refine wpListIn_mapUpdate_own _ rfl _ _ _ 109 rfl 9 4 (string_keyed Tryz.underlying9) Tryz.underlying109 _ (s + 2) _ D rfl HOwn2.out HPL.out _ _ _ rfl rfl (keyS Tryz.underlying9 HSZ.out) _ [] (plainElem_bool Tryz.underlying4 true) ?_; refine Stop.of ?_)
      refine Stop.go ?_
      intro w5 hown5 hg5
      have K5 : Keep (fun k => k ≠ s + 2) w2 w5 := (Keep.grown hg5).mono fun k hk e => hk (by simpa using e)
      have KA : Keep (fun k => k ≠ s + 2) W w5 := (Keep.of_below hbW2).trans K5
      gi_wp2
      refine ⟨KA.size, ?_, v, D.put (.string S.data.toList) (.lit (.bool true)), ?_, ?_, ?_, ?_, ?_, ?_, ?_⟩
      · rintro k hk
        exact KA.block k (HR0.out k (by rcases hk with (h | h) | h | h <;> omega)) (by rcases hk with (h | h) | h | h <;> omega)
      · exact (KA.block (s + 1) H1.out.lt (by omega)).trans H1.out
      · exact (KA.block (s + 3) H3.out.lt (by omega)).trans H3.out
      · exact (KA.block s H0.out.lt (by omega)).trans H0.out
      · exact HBW.out.trans ⟨KA.os, KA.tape, KA.output, KA.size, fun k hk => KA.block k (HR0.out k (.inl hk)) (by omega)⟩
      · rw [HLEN.out _, HSn.out, if_pos HMet.out.symm]
        exact HF.out.keep KA (fun k hk => by omega)
      · rw [HLEN.out _]; exact HD2.out
      · rw [HLEN.out _]; exact hown5
  case done =>
    rintro W ⟨v, D, h1, h3, h0, hBW, hF, hD, hown⟩ hK
    rw [hzL] at hK ⊢
    have hc1 : W.cell? ⟨s + 1, 0, none⟩ = some v := h1.cell
    rw [List.length_map, List.take_of_length_le (Nat.le_refl _)] at hF
    have hF' : FltsO W (s + 7) v (allF M) := hF
    have HFF := hid hF'
    have HBW := hid hBW
    clear hF hF' hD hown h3 h0
    gi_wp2
    refine ⟨by simp, .inl ⟨_, _, rfl, run_takeDeferred hK, ?_⟩⟩
    refine ⟨_, results_tmp rfl _ _ _, v, s + 7, rfl, by have := HS.out; omega, ?_, ?_⟩
    · exact HFF.out.keep (Keep.put W (s + 5) _) (fun k hk => by omega)
    · rw [← HS.out]; exact (Keep.put W (s + 5) _).below HBW.out (by have := HBW.out.size; have := HS.out; omega) (fun k hk => by omega)
  case stop => intro c pre W _ h _; exact h.elim
end Go.Proofs.YtddcamcdjkiadaaGreatDoor

namespace Go.Proofs.YtddcamcdjkiadaaGreatDoor
open Go.RowKit Go.Maps
set_option linter.unusedVariables false

theorem told_len {M : Mask} (hM : okM M = true) (f : Flt) (L : List (List Int)) : (toldT M f L).length ≤ 132 * L.length := by
  induction L with
  | nil => simp [toldT]
  | cons x L ih =>
    have h1 := numT_length (readF M f x) (readM_isInt _ _)
    have h2 := (okM_len hM).2.1
    rw [readF_length] at h1
    have e : toldT M f (x :: L) = numT (readF M f x) ++ toldT M f L := by simp [toldT]
    rw [e, List.length_append, List.length_cons]
    omega

def firstI (M : Mask) (L : List (List Int)) (xs : List Flt) (s : List UInt8) : Option Int :=
  if xs.any (fun g => decide (toldT M g L = s)) then some (xs.findIdx (fun g => decide (toldT M g L = s)) : Nat) else none
theorem firstI_snoc (M : Mask) (L : List (List Int)) (xs : List Flt) (f : Flt) (t : List UInt8) :
    firstI M L (xs ++ [f]) t = if t = toldT M f L then some ((firstI M L xs t).getD xs.length) else firstI M L xs t := by
  unfold firstI
  rw [List.any_append, List.findIdx_append]
  cases h : xs.any (fun g => decide (toldT M g L = t))
  · have h2 : ¬ xs.findIdx (fun g => decide (toldT M g L = t)) < xs.length := by
      rw [List.findIdx_lt_length]
      rintro ⟨g, hg, e⟩
      have := List.any_eq_false.1 h g hg
      exact this e
    rw [if_neg h2]
    by_cases e : t = toldT M f L
    · subst e; simp
    · have e' : ¬ toldT M f L = t := fun h => e h.symm
      simp [e, e']
  · have h2 : xs.findIdx (fun g => decide (toldT M g L = t)) < xs.length := by
      rw [List.findIdx_lt_length]
      obtain ⟨g, hg, e⟩ := List.any_eq_true.1 h
      exact ⟨g, hg, e⟩
    rw [if_pos h2]
    by_cases e : t = toldT M f L <;> simp [e]
theorem firstI_self (M : Mask) (L : List (List Int)) (A : List Flt) (k : Nat) (hk : k < A.length) : (firstI M L (A.take (k + 1)) (toldT M A[k] L)).getD 0 = (idxR M L A A[k] : Nat) := by
  rw [← idxR_take hk]
  unfold firstI idxR
  have hp : (fun g => decide (toldT M g L = toldT M A[k] L)) = (fun g => sameR M L A[k] g) := by
    funext g
    rw [Bool.eq_iff_iff, decide_eq_true_iff, toldT_iff]
    exact ⟨sameR_symm, sameR_symm⟩
  rw [hp, if_pos]
  · rfl
  · rw [List.any_eq_true]
    exact ⟨A[k], by rw [List.mem_take_iff_getElem]; exact ⟨k, by omega, rfl⟩, sameR_refl _ _ _⟩

def classTo (M : Mask) (L : List (List Int)) (k : Nat) : List Int := ((allF M).take k).map (fun f => (idxR M L (allF M) f : Int))
theorem classTo_succ (M : Mask) (L : List (List Int)) (k : Nat) (hk : k < (allF M).length) : classTo M L (k + 1) = classTo M L k ++ [(idxR M L (allF M) (allF M)[k] : Int)] := by
  unfold classTo; rw [List.take_succ_eq_append_getElem hk, List.map_append]; rfl
theorem classTo_all (M : Mask) (L : List (List Int)) : classTo M L (allF M).length = classF M L := by
  unfold classTo classF; rw [List.take_length]
theorem own_keep {S : Nat → Prop} {W W' : World} {base size n : Nat} {T : TypeId} {v : Value} {xs : List Value} (h : W.ownsRow base T size v n xs) (hk : Keep S W W') (h1 : ∀ k, base ≤ k → S k) : W'.ownsRow base T size v n xs := by
  refine ⟨h.1, ?_⟩
  rcases h.2 with hn | ⟨g, cap, cur, rfl, hbg, hgg, rest⟩
  · exact .inl hn
  · exact .inr ⟨g, cap, cur, rfl, hbg, (hk.block g (Array.getElem?_eq_some_iff.1 hgg).1 (h1 g hbg)).trans hgg, rest⟩
theorem own_below {W W' : World} {base size n : Nat} {T : TypeId} {v : Value} {xs : List Value} (h : W.ownsRow base T size v n xs) (hb : Below W.heap.size W W') : W'.ownsRow base T size v n xs :=
  own_keep (S := fun _ => True) h (Keep.of_below hb) (fun _ _ => trivial)
theorem keep_cut {S : Nat → Prop} {A B C : World} (h : Keep S A B) (h2 : Keep (fun q => S q ∧ q < A.heap.size) B C) : Keep S A C :=
  ⟨h2.os.trans h.os, h2.tape.trans h.tape, h2.output.trans h.output, Nat.le_trans h.size h2.size, fun i hi hs => (h2.block i (Nat.lt_of_lt_of_le hi h.size) ⟨hs, hi⟩).trans (h.block i hi hs)⟩
theorem wf_nat (k : Nat) (h : k ≤ 9223372036854775807) : (Lit.int .i64 (k : Int)).wf = true := by
  simp [Lit.wf, IntKind.min, IntKind.max, IntKind.signed, IntKind.bits]
  omega

set_option maxRecDepth 100000 in
set_option maxHeartbeats 4000000 in
theorem classes_c (w : World) (ht : Tab w) (a : Option Addr) (n cap : Nat) (M : Mask) (hn : M.length = n) (H : RowsAt w a M) (hM : okM M = true) (a2 : Option Addr) (n2 cap2 : Nat) (L : List (List Int)) (hn2 : L.length = n2) (hm2 : n2 ≤ 12) (H2 : RowsAt w a2 L) (hx : ∀ x ∈ L, okShown M x = true) :
    Calls Tryz.prog 51 #[.slice a n cap, .slice a2 n2 cap2] w fun e w' => ∃ v base, e = .returned v ∧ w.heap.size ≤ base ∧ w'.ownsRow base 3 1 v (allF M).length ((classF M L).map (Value.int .i64)) ∧ Below w.heap.size w w' := by
  have HAl := hid (fun (W : World) (hb : Below w.heap.size w W) => all_c W a n cap M hn (H.below hb) hM)
  have HTo := hid (fun (W : World) (hb : Below w.heap.size w W) (f : Flt) (hf : okF M f = true) => told_c W (ht.below hb) a n cap M hn (H.below hb) hM f hf a2 n2 cap2 L hn2 (by omega) (H2.below hb) hx)
  have HLen := hid (fun f => told_len hM f L)
  have HOk := hid (fun (f : Flt) (hf : f ∈ allF M) => all_ok hf)
  have hA240 := all_240 hM
  have HN2 := hid hn2
  have hmm := @run_makeMap Tryz.prog
  clear hn H hM hn2 H2 hx ht
  obtain ⟨b0, hb0⟩ : ∃ b0, b0 = w.heap.size := ⟨_, rfl⟩
  have hbm : Below w.heap.size w (w.alloc (.map #[] 0)) := (Below.refl _ _).alloc (Nat.le_refl _) _
  have HAl1 := hid (HAl.out (w.alloc (.map #[] 0)) hbm)
  have hmade : (w.alloc (.map #[] 0)).ownsMap Tryz.prog 9 (plainElem (H := Unit) Tryz.prog 3) b0 0 (.map []) := by rw [hb0]; exact World.ownsMap_made _ _ _ _
  have HMade := hid hmade
  have HB0 := hid hb0
  clear hmade hb0
  go_enter Tryz.func51, Tryz.ntmps51
  go_wp2_with (go_at_call 49; refine HAl1.out.mono ?_; rintro e w1 ⟨v0, base0, rfl, hbase0, hfo, hb1⟩; refine Stop.of ?_)
  refine Stop.go ?_
  obtain ⟨va, vc, rfl, hAm, _⟩ := hfo.reads
  obtain ⟨A, hA⟩ : ∃ A, A = allF M := ⟨_, rfl⟩
  rw [← hA] at hfo hA240 HOk
  rw [← hA]
  obtain ⟨N, hN⟩ : ∃ N, N = A.length := ⟨_, rfl⟩
  rw [← hN] at hA240
  rw [← hN]
  have HFO := hid hfo
  have HN := hid hN
  have HA := hid hA
  have hb01 : b0 < w1.heap.size := by have h1 := hb1.size; rw [World.size_alloc] at h1; have := HB0.out; omega
  have hbw1 : Below w.heap.size w w1 := hbm.trans (hb1.mono hbm.size)
  have hmap1 : w1.ownsMap Tryz.prog 9 (plainElem (H := Unit) Tryz.prog 3) b0 0 (.map []) := map_keep (S := fun _ => True) HMade.out (Keep.of_below hb1) trivial
  have HM1 := hid hmap1
  have hbase1 : b0 < base0 := by have := HB0.out; simp at hbase0; omega
  rw [← HB0.out]
  clear hfo hN hA hmap1 hAm hb1 hbm hbase0 HAl1 HAl hmm
  go_wp2
  go_loopw [6, 16] (fun v i wr => ∃ (k : Nat) (D : DataW Unit), k ≤ N ∧ i = .int .i64 k ∧ wr.ownsRow w1.heap.size 3 1 v k ((classTo M L k).map (Value.int .i64)) ∧ wr.ownsMap Tryz.prog 9 (plainElem (H := Unit) Tryz.prog 3) b0 k D ∧ Hid (MapSI D (firstI M L (A.take k))) ∧ Keep (fun q => q ≠ b0) w1 wr) (fun _ i _ => N - (intOf i).toNat)
  case atStart => exact ⟨0, .map [], Nat.zero_le _, rfl, World.ownsRow_nil _ _ _ _, HM1.out, hid MapSI.nil, Keep.refl _ _⟩
  case round =>
    obtain ⟨k, D, hk, rfl, hown, hmap, HD, hkp⟩ := hrel
    by_cases hlt : k < N
    · have hkA : k < A.length := by rw [← HN.out]; exact hlt
      obtain ⟨_, _, e0, _, hat⟩ := (HFO.out.keep hkp (fun q hq => by omega)).reads
      rw [← HN.out] at e0
      cases e0
      obtain ⟨b, off, rfl, hbs, k0, k1, k2⟩ := hat k hkA
      have hbwr : Below w.heap.size w wr := hkp.below hbw1 hbw1.size (fun q hq => by have := HB0.out; omega)
      have htc := classTo_succ M L k (by rw [← HA.out]; exact hkA)
      have hself := firstI_self M L A k hkA
      have hsn := firstI_snoc M L (A.take k) A[k]
      have htk : A.take (k + 1) = A.take k ++ [A[k]] := List.take_succ_eq_append_getElem hkA
      rw [← htk] at hsn
      have hkl : (A.take k).length = k := by rw [List.length_take]; omega
      rw [hkl] at hsn
      simp only [← HA.out] at htc
      have hok := HOk.out A[k] (List.getElem_mem hkA)
      have HT1 := HTo.out (wr.alloc (.cells (fltCells A[k]).toArray 113)) (hbwr.alloc hbwr.size _) A[k] hok
      have hlen := HLen.out A[k]
      obtain ⟨f, hf⟩ : ∃ f, f = A[k] := ⟨_, rfl⟩
      rw [← hf] at htc hself hsn hlen HT1 k0 k1 k2
      obtain ⟨I, hI⟩ : ∃ I : Int, I = (idxR M L A f : Nat) := ⟨_, rfl⟩
      rw [← hI] at htc hself
      obtain ⟨S, hS⟩ : ∃ S : ByteArray, S = ⟨(toldT M f L).toArray⟩ := ⟨_, rfl⟩
      have hSt : S.data.toList = toldT M f L := by rw [hS]
      have hSz : S.size ≤ maxLen := by rw [hS]; unfold maxLen; simp [ByteArray.size]; have := HN2.out; omega
      rw [← hS] at HT1
      rw [← hSt] at hself hsn
      have HTT := hid HT1
      obtain ⟨X, hX⟩ : ∃ X, X = firstI M L (A.take k) S.data.toList := ⟨_, rfl⟩
      have HSELF := hid hself
      have HSN := hid hsn
      have HTC := hid htc
      have HSZ := hid hSz
      have HX := hid hX
      have HMAP := hid hmap
      have HOWN := hid hown
      have HKP := hid hkp
      have HBWR := hid hbwr
      have M1 := hid (show k + 1 ≤ maxLen by unfold maxLen; omega)
      have M2 := hid (show (k + 1) * 8 ≤ 140737488355328 by omega)
      have M4 := hid (show k < maxLen by unfold maxLen; omega)
      have hsw := hkp.size
      have hb0r : b0 < wr.heap.size := by omega
      have hs0 : wr.heap.size = wr.heap.size := rfl
      clear hSt hS hI hf hlen hok hkl htk HT1 hself hsn htc hSz hX hmap hown hkp hbwr hat hkA hs0
      obtain ⟨kind, row, pixel⟩ := f
      simp only [Flt.val, fltCells] at HTT
      simp only [] at k0 k1 k2
      go_wp2_with (go_at_call 87; refine HTT.out.mono ?_; rintro e w3 ⟨rfl, hb3⟩; refine Stop.of ?_)
      refine Stop.go ?_
      have hb3' : Below wr.heap.size wr w3 := ((Below.refl _ wr).alloc (Nat.le_refl _) _).trans (hb3.mono (by simp))
      have HM3 := hid (map_keep (S := fun _ => True) HMAP.out (Keep.of_below hb3') trivial)
      have HO3 := hid (show w3.ownsRow w1.heap.size 3 1 u6 k ((classTo M L k).map (Value.int .i64)) from own_below HOWN.out hb3')
      have HB3 := hid hb3'
      have hs3 := hb3'.size
      clear hb3 hb3' k0 k1 k2
      go_wp2_with (at_lookup; refine wpList_lookup_si_ok _ rfl _ _ 116 rfl 9 3 Tryz.underlying9 Tryz.underlying116 Tryz.underlying3 (Tryz.zeroValue3 _) b0 _ D _ HD.out rfl HM3.out S rfl HSZ.out X HX.out ?_; refine Stop.of ?_)
      refine Stop.go ?_
      cases X with
      | none =>
        simp only [Option.getD_none, Option.isSome_none]
        have hD2 : MapSI (D.put (.string S.data.toList) (.lit (.int .i64 k))) (firstI M L (A.take (k + 1))) := by
          have h9 := HD.out.put S.data.toList (k : Int)
          have e : firstI M L (A.take (k + 1)) = fun t => if t = S.data.toList then some (k : Int) else firstI M L (A.take k) t := by
            funext t
            rw [HSN.out t]
            by_cases e : t = S.data.toList
            · subst e; rw [if_pos rfl, if_pos rfl, ← HX.out]; rfl
            · rw [if_neg e, if_neg e]
          rw [e]; exact h9
        have HD2 := hid hD2
        have hel : plainElem (H := Unit) Tryz.prog 3 (.int .i64 (k : Int)) = some (.lit (.int .i64 k), []) := plainElem_int Tryz.underlying3 (wf_nat k (by omega))
        have HEL := hid hel
        clear hD2 hel
        go_wp2_with (at_mapUpdate; refine wpList_mapUpdate_own _ rfl _ _ _ 116 rfl 9 3 (string_keyed Tryz.underlying9) Tryz.underlying116 _ b0 _ D rfl HM3.out M4.out _ _ _ rfl rfl (keyS Tryz.underlying9 HSZ.out) _ [] HEL.out ?_; refine Stop.of ?_)
        refine Stop.go ?_
        intro w5 hown5 hg5
        have hg5s := hg5.size
        have HM5 := hid hown5
        have hK5 : Keep (fun q => q ≠ b0) w3 w5 := (Keep.grown hg5).mono fun q hq e => hq (by simpa using e)
        have HO5 := hid (own_keep HO3.out hK5 (fun q hq => by omega))
        have HK5 := hid hK5
        clear hown5 hg5 hK5
        go_wp2_with (at_lookup; refine wpList_lookup_si_one _ rfl _ _ 116 rfl 9 3 Tryz.underlying9 Tryz.underlying116 Tryz.underlying3 (Tryz.zeroValue3 _) b0 _ _ _ HD2.out rfl HM5.out S rfl HSZ.out I HSELF.out ?_; refine Stop.of ?_)
        refine Stop.go ?_
        have M3 := hid (show w1.heap.size ≤ (w5.alloc (.cells #[.int .i64 I] 3)).heap.size by simp; omega)
        go_wp2_with (at_builtin; refine wpList_app _ rfl (.tmp 36) (.tmp 40) 30 rfl w1.heap.size 3 (.int .i64 0) 1 8 Tryz.underlying30 info_int rfl Nat.one_pos u6 k _ rfl (HO5.out.alloc _) (some ⟨w5.heap.size, 0, none⟩) 1 1 [.int .i64 I] rfl rfl no_none (one_news w5 _ _) (one_int _) M1.out M2.out M3.out ?_; refine Stop.of ?_)
        refine Stop.go ?_
        intro a7 c7 w7 own7 g7
        have hK7 : Keep (fun q => q < w1.heap.size) w5 w7 := (Keep.of_below ((Below.refl _ w5).alloc (Nat.le_refl _) _) : Keep (fun q => q < w1.heap.size) w5 (w5.alloc (.cells #[.int .i64 I] 3))).trans ((Keep.grown g7).mono fun q hq e => by have := (HO5.out.lt q e.symm).1; omega)
        have HM7 := map_keep HM5.out hK7 hb01
        have hKA : Keep (fun q => q ≠ b0 ∧ q < w1.heap.size) wr w7 := ((Keep.of_below HB3.out).trans (HK5.out.mono fun q hq => hq.1)).trans (hK7.mono fun q hq => hq.2)
        have hKB : Keep (fun q => q ≠ b0) w1 w7 := keep_cut HKP.out hKA
        go_wp2
        refine ⟨⟨k + 1, _, by omega, by go_num, ?_, HM7, HD2, hKB⟩, by simp [intOf]; omega⟩
        rw [HTC.out, List.map_append]
        exact own7
      | some i =>
        simp only [Option.getD_some, Option.isSome_some]
        have hD2 : MapSI D (firstI M L (A.take (k + 1))) := by
          have e : firstI M L (A.take (k + 1)) = firstI M L (A.take k) := by
            funext t
            rw [HSN.out t]
            by_cases e : t = S.data.toList
            · subst e; rw [if_pos rfl, ← HX.out]; rfl
            · rw [if_neg e]
          rw [e]; exact HD.out
        have HD2 := hid hD2
        clear hD2
        go_wp2_with (at_lookup; refine wpList_lookup_si_one _ rfl _ _ 116 rfl 9 3 Tryz.underlying9 Tryz.underlying116 Tryz.underlying3 (Tryz.zeroValue3 _) b0 _ D _ HD2.out rfl HM3.out S rfl HSZ.out I HSELF.out ?_; refine Stop.of ?_)
        refine Stop.go ?_
        have M3 := hid (show w1.heap.size ≤ (w3.alloc (.cells #[.int .i64 I] 3)).heap.size by simp; omega)
        go_wp2_with (at_builtin; refine wpList_app _ rfl (.tmp 36) (.tmp 40) 30 rfl w1.heap.size 3 (.int .i64 0) 1 8 Tryz.underlying30 info_int rfl Nat.one_pos u6 k _ rfl (HO3.out.alloc _) (some ⟨w3.heap.size, 0, none⟩) 1 1 [.int .i64 I] rfl rfl no_none (one_news w3 _ _) (one_int _) M1.out M2.out M3.out ?_; refine Stop.of ?_)
        refine Stop.go ?_
        intro a7 c7 w7 own7 g7
        have hK7 : Keep (fun q => q < w1.heap.size) w3 w7 := (Keep.of_below ((Below.refl _ w3).alloc (Nat.le_refl _) _) : Keep (fun q => q < w1.heap.size) w3 (w3.alloc (.cells #[.int .i64 I] 3))).trans ((Keep.grown g7).mono fun q hq e => by have := (HO3.out.lt q e.symm).1; omega)
        have HM7 := map_keep HM3.out hK7 hb01
        have hKA : Keep (fun q => q ≠ b0 ∧ q < w1.heap.size) wr w7 := (Keep.of_below HB3.out).trans (hK7.mono fun q hq => hq.2)
        have hKB : Keep (fun q => q ≠ b0) w1 w7 := keep_cut HKP.out hKA
        go_wp2
        refine ⟨⟨k + 1, _, by omega, by go_num, ?_, HM7.mono (by omega), HD2, hKB⟩, by simp [intOf]; omega⟩
        rw [HTC.out, List.map_append]
        exact own7
    · obtain rfl : k = N := by omega
      rw [HN.out, HA.out, classTo_all] at hown
      have HOW := hid hown
      have HBE := hid (hkp.below hbw1 hbw1.size (fun q hq => by have := HB0.out; omega))
      clear hown hmap hkp
      go_wp2
      go_ret
      refine ⟨u6, w1.heap.size, rfl, hbw1.size, ?_, HBE.out⟩
      exact HOW.out
end Go.Proofs.YtddcamcdjkiadaaGreatDoor

namespace Go.Proofs.YtddcamcdjkiadaaGreatDoor
open Go.RowKit Go.Maps
set_option linter.unusedVariables false

def maskE (M : Mask) : Int := if okM M = true then 0 else 1
def allL (M : Mask) : List Flt := if okM M = true then allF M else []
def enoughB (M : Mask) (L : List (List Int)) : Bool := decide (listedE M L = 0) && enoughF M L

theorem listedE_ok {M : Mask} {L : List (List Int)} (h : listedE M L = 0) : okM M = true ∧ picsB M L = true := by
  unfold listedE at h
  by_cases h1 : okM M = true
  · rw [if_pos h1] at h
    by_cases h2 : picsB M L = true
    · exact ⟨h1, h2⟩
    · rw [if_neg h2] at h; simp at h
  · rw [if_neg h1] at h; simp at h

theorem All_c (w : World) (a : Option Addr) (n cap : Nat) (M : Mask) (hn : M.length = n) (hm : n ≤ maxLen) (H : RowsAt w a M) :
    Calls Tryz.prog 21 #[.slice a n cap] w fun e w' => ∃ v base, e = .returned (.tuple #[v, .int .i64 (maskE M)]) ∧ w.heap.size ≤ base ∧ FltsO w' base v (allL M) ∧ Below w.heap.size w w' := by
  have HV := hid (maskValid_c w a n cap M hn hm H)
  cases h1 : okM M
  · rw [h1] at HV
    have HE := hid (show maskE M = 1 ∧ allL M = [] by unfold maskE allL; rw [h1]; simp)
    clear h1 hn H
    go_enter Tryz.func21, Tryz.ntmps21
    go_wp2_with (go_at_call 39; refine HV.out.mono ?_; rintro e w1 ⟨rfl, hb1⟩)
    go_ret2
    refine ⟨.slice none 0 0, w1.heap.size, by rw [HE.out.1]; rfl, hb1.size, ?_, hb1⟩
    rw [HE.out.2]
    exact FltsO.nil _ _
  · rw [h1] at HV
    have HE := hid (show maskE M = 0 ∧ allL M = allF M by unfold maskE allL; rw [h1]; simp)
    have HA := hid (fun (W : World) (hb : Below w.heap.size w W) => all_c W a n cap M hn (H.below hb) h1)
    clear h1 hn H
    go_enter Tryz.func21, Tryz.ntmps21
    go_wp2_with (first | (go_at_call 39; refine HV.out.mono ?_; rintro e w1 ⟨rfl, hb1⟩) | (go_at_call 49; refine (HA.out _ hb1).mono ?_; rintro e w2 ⟨v, base, rfl, hbase, hF, hb2⟩))
    go_ret2
    refine ⟨v, base, by rw [HE.out.1]; rfl, Nat.le_trans hb1.size hbase, ?_, chain hb1 hb2⟩
    rw [HE.out.2]
    exact hF

theorem enough_stop {M : Mask} {L : List (List Int)} {k : Nat} (hk : k < (allF M).length) (h : (classF M L)[k]? ≠ some (k : Int)) : enoughF M L = false := by
  unfold enoughF
  rw [decide_eq_false_iff_not]
  exact fun h9 => h (h9 k hk)
theorem enough_done {M : Mask} {L : List (List Int)} (h : ∀ k, k < (allF M).length → (classF M L)[k]? = some (k : Int)) : enoughF M L = true := by
  unfold enoughF
  rw [decide_eq_true_iff]
  exact h

set_option maxHeartbeats 800000 in
theorem Enough_c (w : World) (ht : Tab w) (a : Option Addr) (n cap : Nat) (M : Mask) (hn : M.length = n) (hm : n ≤ maxLen) (H : RowsAt w a M) (a2 : Option Addr) (n2 cap2 : Nat) (L : List (List Int)) (hn2 : L.length = n2) (hm2 : n2 ≤ maxLen) (H2 : RowsAt w a2 L) :
    Calls Tryz.prog 22 #[.slice a n cap, .slice a2 n2 cap2] w fun e w' => e = .returned (.tuple #[.bool (enoughB M L), .int .i64 (listedE M L)]) ∧ Below w.heap.size w w' := by
  have HV := hid (flisted_c w a n cap M hn hm H a2 n2 cap2 L hn2 hm2 H2)
  by_cases h1 : listedE M L = 0
  · obtain ⟨h2, h3⟩ := listedE_ok h1
    obtain ⟨h4, h5⟩ := picsB_iff h3
    have HA := hid (fun (W : World) (hb : Below w.heap.size w W) => classes_c W (ht.below hb) a n cap M hn (H.below hb) h2 a2 n2 cap2 L hn2 (by omega) (H2.below hb) h5)
    have HE := hid (show enoughB M L = enoughF M L by unfold enoughB; rw [h1]; simp)
    have hA240 := all_240 h2
    have HCL := hid (classF_length M L)
    have HS := hid (fun k => @enough_stop M L k)
    have HD := hid (@enough_done M L)
    rw [h1] at HV ⊢
    clear h1 h2 h3 h4 h5 hn H hn2 H2 ht
    go_enter Tryz.func22, Tryz.ntmps22
    go_wp2_with (first | (go_at_call 50; refine HV.out.mono ?_; rintro e w1 ⟨rfl, hb1⟩) | (go_at_call 51; refine (HA.out _ hb1).mono ?_; rintro e w2 ⟨v, base, rfl, hbase, hF, hb2⟩; refine Stop.of ?_))
    refine Stop.go ?_
    obtain ⟨va, vc, rfl, hI⟩ := ints_own hF HCL.out
    obtain ⟨N, hN⟩ : ∃ N, N = (allF M).length := ⟨_, rfl⟩
    rw [← hN] at hA240 HCL ⊢
    have HN := hid hN
    have HI := hid hI
    have HB := hid (chain hb1 hb2)
    clear hN hI hF hb1 hb2 hbase
    go_wp2
    go_loop [19] (fun i => ∃ k : Nat, k ≤ N ∧ i = .int .i64 k ∧ Hid (∀ j, j < k → (classF M L)[j]? = some (j : Int))) (fun i => N - (intOf i).toNat)
    case atStart => exact ⟨0, Nat.zero_le _, rfl, hid (fun j hj => by omega)⟩
    case round =>
      obtain ⟨k, hk, rfl, hS⟩ := hrel
      by_cases hlt : k < N
      · obtain ⟨b, off, rfl, hbs, hc⟩ := HI.out k (by rw [HCL.out]; exact hlt)
        obtain ⟨X, hX⟩ : ∃ X, X = (classF M L)[k]?.getD 0 := ⟨_, rfl⟩
        rw [← hX] at hc
        have hget : (classF M L)[k]? = some X := by rw [hX]; exact getD_lt (by rw [HCL.out]; exact hlt)
        have HG := hid hget
        clear hX hget
        by_cases e : X = (k : Int)
        · subst e
          go_wp2
          go_round
          case rel => exact ⟨k + 1, by omega, by go_num, hid (fun j hj => by
            rcases Nat.lt_or_ge j k with h | h
            · exact hS.out j h
            · obtain rfl : j = k := by omega
              exact HG.out)⟩
          case measure => simp [intOf]; omega
        · have e2 : (X != (k : Int)) = true := by simpa using e
          have HQ := hid e
          clear e
          go_wp2
          go_ret2
          refine ⟨?_, HB.out⟩
          rw [HE.out, HS.out k (by rw [← HN.out]; exact hlt) (by rw [HG.out]; intro h; exact HQ.out (by simpa using h))]
          rfl
      · obtain rfl : k = N := by omega
        go_wp2
        go_ret2
        refine ⟨?_, HB.out⟩
        rw [HE.out, HD.out (fun j hj => hS.out j (by rw [HN.out]; exact hj))]
        rfl
  · have HE := hid (show enoughB M L = false by unfold enoughB; simp [h1])
    obtain ⟨E, hE⟩ : ∃ E, E = listedE M L := ⟨_, rfl⟩
    rw [← hE] at HV ⊢ h1
    have h6 : (E != 0) = true := by simpa using h1
    clear h1 hE hn H hn2 H2 ht
    go_enter Tryz.func22, Tryz.ntmps22
    go_wp2_with (go_at_call 50; refine HV.out.mono ?_; rintro e w1 ⟨rfl, hb1⟩)
    go_ret2
    exact ⟨by rw [HE.out]; rfl, hb1⟩
end Go.Proofs.YtddcamcdjkiadaaGreatDoor

namespace Go.Proofs.YtddcamcdjkiadaaGreatDoor
open Go.RowKit Go.Maps
set_option linter.unusedVariables false

theorem lit_ints (W : World) (l : List Int) (T : TypeId) : IntsAt (W.alloc (.cells (l.map (Value.int .i64)).toArray T)) (some ⟨W.heap.size, 0, none⟩) l := by
  intro j hj
  refine ⟨W.heap.size, 0, rfl, by simp, ?_⟩
  rw [World.cell?_alloc_at _ _ _ _ rfl]
  simp [List.getElem?_eq_getElem hj]
theorem lit_rows1 (W : World) (ra : Option Addr) (n cap : Nat) (l : List Int) (hn : l.length = n) (hm : n ≤ maxLen) (h : IntsAt W ra l) (T : TypeId) : RowsAt (W.alloc (.cells #[.slice ra n cap] T)) (some ⟨W.heap.size, 0, none⟩) [l] := by
  have hb : Below W.heap.size W (W.alloc (.cells #[.slice ra n cap] T)) := (Below.refl _ _).alloc (Nat.le_refl _) _
  intro j hj
  obtain rfl : j = 0 := by simp at hj; omega
  refine ⟨W.heap.size, 0, ra, n, cap, rfl, by simp, ?_, hn, hm, h.below hb⟩
  rw [World.cell?_alloc_at _ _ _ _ rfl]; rfl

theorem awake_vals : maskE [[1, -1]] = 0 ∧ (allL [[1, -1]]).length = 6 ∧ listedE [[1, -1]] [[1, 2]] = 0 ∧ enoughB [[1, -1]] [[1, 2]] = true := by decide +kernel

theorem awake_enough (W : World) (ht : Tab W) (a : Option Addr) (hR : RowsAt W a [[1, -1]]) :
    Calls Tryz.prog 22 #[.slice a 1 1, .slice (some ⟨W.heap.size + 1, 0, none⟩) 1 1] ((W.alloc (.cells #[.int .i64 1, .int .i64 2] 3)).alloc (.cells #[.slice (some ⟨W.heap.size, 0, none⟩) 2 2] 30))
      fun e w' => e = .returned (.tuple #[.bool true, .int .i64 0]) ∧ Below ((W.alloc (.cells #[.int .i64 1, .int .i64 2] 3)).alloc (.cells #[.slice (some ⟨W.heap.size, 0, none⟩) 2 2] 30)).heap.size ((W.alloc (.cells #[.int .i64 1, .int .i64 2] 3)).alloc (.cells #[.slice (some ⟨W.heap.size, 0, none⟩) 2 2] 30)) w' := by
  obtain ⟨_, _, c3, c4⟩ := awake_vals
  obtain ⟨wa, hwa⟩ : ∃ wa, wa = (W.alloc (.cells #[.int .i64 1, .int .i64 2] 3)).alloc (.cells #[.slice (some ⟨W.heap.size, 0, none⟩) 2 2] 30) := ⟨_, rfl⟩
  have hba : Below W.heap.size W wa := by rw [hwa]; exact ((Below.refl _ _).alloc (Nat.le_refl _) _).alloc (by simp) _
  have hL : RowsAt wa (some ⟨W.heap.size + 1, 0, none⟩) [[1, 2]] := by
    have := lit_rows1 (W.alloc (.cells #[.int .i64 1, .int .i64 2] 3)) (some ⟨W.heap.size, 0, none⟩) 2 2 [1, 2] rfl (by decide) (lit_ints W [1, 2] 3) 30
    rw [World.size_alloc] at this
    rw [hwa]; exact this
  rw [← hwa]
  have h := Enough_c wa (ht.below hba) a 1 1 [[1, -1]] rfl (by decide) (hR.below hba) (some ⟨W.heap.size + 1, 0, none⟩) 1 1 [[1, 2]] rfl (by decide) hL
  rw [c3, c4] at h
  exact h

set_option maxRecDepth 100000 in
theorem awake_c (w : World) (ht : Tab w) : Calls Tryz.prog 6 #[] w fun e w' => e = .returned (.bool true) ∧ Below w.heap.size w w' := by
  obtain ⟨c1, c2, _, _⟩ := awake_vals
  obtain ⟨wa, hwa⟩ : ∃ wa, wa = (w.alloc (.cells #[.int .i64 1, .int .i64 (-1)] 3)).alloc (.cells #[.slice (some ⟨w.heap.size, 0, none⟩) 2 2] 30) := ⟨_, rfl⟩
  have hba : Below w.heap.size w wa := by rw [hwa]; exact ((Below.refl _ _).alloc (Nat.le_refl _) _).alloc (by simp) _
  have hR : RowsAt wa (some ⟨w.heap.size + 1, 0, none⟩) [[1, -1]] := by
    have := lit_rows1 (w.alloc (.cells #[.int .i64 1, .int .i64 (-1)] 3)) (some ⟨w.heap.size, 0, none⟩) 2 2 [1, -1] rfl (by decide) (lit_ints w [1, -1] 3) 30
    rw [World.size_alloc] at this
    rw [hwa]; exact this
  have HA := hid (All_c wa (some ⟨w.heap.size + 1, 0, none⟩) 1 1 [[1, -1]] rfl (by decide) hR)
  have HQ := hid (fun (W : World) (hb : Below wa.heap.size wa W) => awake_enough W (ht.below (chain hba hb)) (some ⟨w.heap.size + 1, 0, none⟩) (hR.below hb))
  rw [c1] at HA
  have C2 := hid c2
  clear c1 c2 hR
  go_enter Tryz.func6, Tryz.ntmps6
  go_wp2_with fail
  rw [← hwa]
  clear hwa
  go_wp2_with (go_at_call 21; refine HA.out.mono ?_; rintro e w1 ⟨v, base, rfl, hbase, hF, hb1⟩; refine Stop.of ?_)
  refine Stop.go ?_
  obtain ⟨va, vc, rfl, _, _⟩ := hF.reads
  rw [C2.out]
  have HB := hid (chain hba hb1)
  have HQ1 := hid (HQ.out w1 hb1)
  clear hF hbase hb1 HQ
  go_wp2_with (go_at_call 22; refine HQ1.out.mono ?_; rintro e w2 ⟨rfl, hb2⟩)
  go_ret
  refine ⟨rfl, ?_⟩
  exact chain (((HB.out.alloc HB.out.size _).alloc (by have := HB.out.size; simp; omega) _)) hb2
end Go.Proofs.YtddcamcdjkiadaaGreatDoor

namespace Go.Proofs.YtddcamcdjkiadaaGreatDoor
open Go.RowKit
set_option linter.unusedVariables false

theorem FltsO.snoc {W : World} {base n : Nat} {v : Value} {l : List Flt} {f : Flt} (hl : l.length = n) (h : W.ownsRow base 113 3 v (n + 1) (fltVals l ++ fltCells f)) : FltsO W base v (l ++ [f]) := by
  subst hl
  unfold FltsO
  rw [fltVals_snoc, List.length_append]
  exact h
theorem FltsO.slice {W : World} {base : Nat} {v : Value} {l : List Flt} (h : FltsO W base v l) : ∃ a c, v = .slice a l.length c := ownsRow_slice h

end Go.Proofs.YtddcamcdjkiadaaGreatDoor

namespace Go.Proofs.YtddcamcdjkiadaaGreatDoor
open Go.RowKit
set_option linter.unusedVariables false

def FC (W : World) (b : Nat) (k r p : Int) : Prop := W.cell? ⟨b, 0, none⟩ = some (.int .i64 k) ∧ W.cell? ⟨b, 1, none⟩ = some (.int .i64 r) ∧ W.cell? ⟨b, 2, none⟩ = some (.int .i64 p)
theorem FC.below {W W' : World} {b : Nat} {k r p : Int} (h : FC W b k r p) (hlt : b < W.heap.size) (hb : Below W.heap.size W W') : FC W' b k r p :=
  ⟨(hb.cell (p := ⟨b, 0, none⟩) hlt).trans h.1, (hb.cell (p := ⟨b, 1, none⟩) hlt).trans h.2.1, (hb.cell (p := ⟨b, 2, none⟩) hlt).trans h.2.2⟩
theorem FC.new (W : World) (k r p : Int) (T : TypeId) : FC (W.alloc (.cells #[.int .i64 k, .int .i64 r, .int .i64 p] T)) W.heap.size k r p := by
  refine ⟨?_, ?_, ?_⟩ <;> (rw [World.cell?_alloc_at _ _ _ _ rfl]; rfl)

end Go.Proofs.YtddcamcdjkiadaaGreatDoor

namespace Go.Proofs.YtddcamcdjkiadaaGreatDoor
open Go.RowKit
set_option linter.unusedVariables false

structure Tst where
  shown : List Int
  read : List Int
deriving DecidableEq

def TstV (w : World) (v : Value) (t : Tst) : Prop :=
  ∃ sa sn sc ra rn rc, v = .agg #[.slice sa sn sc, .slice ra rn rc] ∧ t.shown.length = sn ∧ sn ≤ maxLen ∧ IntsAt w sa t.shown ∧ t.read.length = rn ∧ rn ≤ maxLen ∧ IntsAt w ra t.read
theorem TstV.below {w w' : World} {v : Value} {t : Tst} (h : TstV w v t) (hb : Below w.heap.size w w') : TstV w' v t := by
  obtain ⟨sa, sn, sc, ra, rn, rc, e, h1, h2, h3, h4, h5, h6⟩ := h
  exact ⟨sa, sn, sc, ra, rn, rc, e, h1, h2, h3.below hb, h4, h5, h6.below hb⟩

def TestsAt (w : World) (a : Option Addr) (l : List Tst) : Prop :=
  ∀ j (hj : j < l.length), ∃ b off sa sn sc ra rn rc, a = some ⟨b, off, none⟩ ∧ b < w.heap.size ∧ w.cell? ⟨b, off + j * 2, none⟩ = some (.slice sa sn sc) ∧ w.cell? ⟨b, off + j * 2 + 1, none⟩ = some (.slice ra rn rc) ∧
    l[j].shown.length = sn ∧ sn ≤ maxLen ∧ IntsAt w sa l[j].shown ∧ l[j].read.length = rn ∧ rn ≤ maxLen ∧ IntsAt w ra l[j].read
theorem TestsAt.below {w w' : World} {a : Option Addr} {l : List Tst} (h : TestsAt w a l) (hb : Below w.heap.size w w') : TestsAt w' a l := by
  intro j hj
  obtain ⟨b, off, sa, sn, sc, ra, rn, rc, e, hlt, c0, c1, h1, h2, h3, h4, h5, h6⟩ := h j hj
  exact ⟨b, off, sa, sn, sc, ra, rn, rc, e, Nat.lt_of_lt_of_le hlt hb.size, (hb.cell (p := ⟨b, _, none⟩) hlt).trans c0, (hb.cell (p := ⟨b, _, none⟩) hlt).trans c1, h1, h2, h3.below hb, h4, h5, h6.below hb⟩

def PredT (P : Program) (g : Nat) (lb : Array Value) (w : World) (ok : Tst → Prop) (p : Tst → Bool) : Prop :=
  ∀ (c : Tst) (v : Value) (W : World), ok c → Below w.heap.size w W → TstV W v c → Calls P g (#[v] ++ lb) W fun e W' => e = .returned (.bool (p c)) ∧ Below W.heap.size W W'

theorem indexT (w : World) (a : Option Addr) (n cap : Nat) (l : List Tst) (hn : l.length = n) (hm : n ≤ maxLen) (H : TestsAt w a l) (g : Nat) (lb : Array Value) (ok : Tst → Prop) (p : Tst → Bool)
    (eg : ∀ args w, (callFunc g args).run Tryz.prog w = .ok (.enter g args) w) (hp : PredT Tryz.prog g lb w ok p) (hok : ∀ c ∈ l, ok c) :
    Calls Tryz.prog 61 #[.slice a n cap, .func (.func g) #[] lb] w fun e w' => e = .returned (.int .i64 (idxP p l 0)) ∧ Below w.heap.size w w' := by
  have HN := hid hn
  have HH := hid H
  have HP := hid hp
  have HO := hid hok
  clear hn H hp hok
  unfold maxLen at hm
  go_enter Tryz.func61, Tryz.ntmps61
  go_wp2
  go_loopw [8] (fun i wr => ∃ k : Nat, k ≤ n ∧ i = .int .i64 k ∧ Below w.heap.size w wr ∧ ∀ i y, i < k → l[i]? = some y → p y = false) (fun i _ => n - (intOf i).toNat)
  case atStart => exact ⟨0, Nat.zero_le _, rfl, Below.refl _ _, fun i y h => by omega⟩
  case round =>
    obtain ⟨k, hk, rfl, hb, hno⟩ := hrel
    have HNO := hid hno
    clear hno
    by_cases hlt : k < n
    · have hkl : k < l.length := by rw [HN.out]; exact hlt
      obtain ⟨b, off, sa, sn, sc, ra, rn, rc, rfl, hbs, h0, h1, hsn, hsm, hsi, hrn, hrm, hri⟩ := (HH.out.below hb) k hkl
      have HV := hid (show TstV wr (.agg #[.slice sa sn sc, .slice ra rn rc]) l[k] from ⟨sa, sn, sc, ra, rn, rc, rfl, hsn, hsm, hsi, hrn, hrm, hri⟩)
      clear hrn hri hsn hsi
      have HK := hid (List.getElem?_eq_getElem hkl)
      cases hpx : p l[k]
      · go_wp2_with (refine (HP.out _ _ _ (HO.out _ (List.getElem_mem hkl)) hb HV.out).mono ?_; rintro e w1 ⟨rfl, hb1⟩)
        refine ⟨⟨k + 1, by omega, by go_num, chain hb hb1, ?_⟩, by simp [intOf]; omega⟩
        intro i y hi hy
        by_cases e : i = k
        · subst e; rw [HK.out] at hy; cases hy; exact hpx
        · exact HNO.out i y (by omega) hy
      · go_wp2_with (refine (HP.out _ _ _ (HO.out _ (List.getElem_mem hkl)) hb HV.out).mono ?_; rintro e w1 ⟨rfl, hb1⟩)
        go_ret
        refine ⟨ret_int ?_, chain hb hb1⟩
        rw [idxP_at p l 0 k _ HK.out hpx HNO.out]; simp
    · go_wp2
      go_ret
      refine ⟨ret_int ?_, hb⟩
      rw [idxP_neg]
      intro x hx
      obtain ⟨i, hi, e⟩ := List.getElem_of_mem hx
      exact HNO.out i x (by have := HN.out; omega) (by rw [List.getElem?_eq_getElem hi, e])

theorem containsT (w : World) (a : Option Addr) (n cap : Nat) (l : List Tst) (hn : l.length = n) (hm : n ≤ maxLen) (H : TestsAt w a l) (g : Nat) (lb : Array Value) (ok : Tst → Prop) (p : Tst → Bool)
    (eg : ∀ args w, (callFunc g args).run Tryz.prog w = .ok (.enter g args) w) (hp : PredT Tryz.prog g lb w ok p) (hok : ∀ c ∈ l, ok c) :
    Calls Tryz.prog 31 #[.slice a n cap, .func (.func g) #[] lb] w fun e w' => e = .returned (.bool (l.any p)) ∧ Below w.heap.size w w' := by
  have HC := hid (indexT w a n cap l hn hm H g lb ok p eg hp hok)
  have HG := idxP_ge p l 0
  have HG' := hid HG
  clear hn H hp HG hok
  go_enter Tryz.func31, Tryz.ntmps31
  go_wp2_with (refine HC.out.mono ?_; rintro e w1 ⟨rfl, hb1⟩)
  go_ret
  refine ⟨ret_bool ?_, hb1⟩
  rw [Bool.eq_iff_iff, decide_eq_true_iff, HG'.out]

theorem tstBox (w : World) (sa ra : Option Addr) (sn sc rn rc : Nat) : ∃ wt, wt = w.alloc (.cells #[.slice sa sn sc, .slice ra rn rc] 32) ∧ Below w.heap.size w wt ∧ (∀ W, Below wt.heap.size wt W → w.heap.size < W.heap.size ∧ W.cell? ⟨w.heap.size, 0, none⟩ = some (.slice sa sn sc) ∧ W.cell? ⟨w.heap.size, 1, none⟩ = some (.slice ra rn rc)) := by
  refine ⟨_, rfl, (Below.refl _ _).alloc (Nat.le_refl _) _, fun W hb => ?_⟩
  have hs := hb.size
  simp at hs
  refine ⟨by omega, ?_, ?_⟩ <;> (rw [hb.cell (p := ⟨w.heap.size, _, none⟩) (by simp), World.cell?_alloc_at _ _ _ _ rfl]; rfl)

def fitT (l : List Tst) : Bool := l.all (fun t => decide (t.shown.length ≤ 20) && decide (t.read.length ≤ 20)) && decide (l.length ≤ 16)
theorem tests_c (w : World) (a2 : Option Addr) (n2 cap2 : Nat) (l : List Tst) (hn2 : l.length = n2) (hm2 : n2 ≤ maxLen) (H2 : TestsAt w a2 l) :
    Calls Tryz.prog 5 #[.slice a2 n2 cap2] w fun e w' => e = .returned (.bool (fitT l)) ∧ Below w.heap.size w w' := by
  have HN2 := hid hn2
  have HH2 := hid H2
  have HE := hid (show fitT l = (l.all (fun t => decide (t.shown.length ≤ 20) && decide (t.read.length ≤ 20)) && decide (n2 ≤ 16)) by unfold fitT; rw [hn2])
  unfold maxLen at hm2
  clear hn2 H2
  go_enter Tryz.func5, Tryz.ntmps5
  go_wp2
  go_loopw [7] (fun i wr => ∃ k : Nat, k ≤ n2 ∧ i = .int .i64 k ∧ Below w.heap.size w wr ∧ Hid (∀ j (hj : j < l.length), j < k → (decide (l[j].shown.length ≤ 20) && decide (l[j].read.length ≤ 20)) = true)) (fun i _ => n2 - (intOf i).toNat)
  case atStart => exact ⟨0, Nat.zero_le _, rfl, Below.refl _ _, hid (fun j _ h => by omega)⟩
  case round =>
    obtain ⟨k, hk, rfl, hb, hno⟩ := hrel
    by_cases hlt : k < n2
    · have hkl : k < l.length := by rw [HN2.out]; exact hlt
      obtain ⟨b, off, sa, sn, sc, ra, rn, rc, rfl, hbs, h0, h1, hsn, hsm, hsi, hrn, hrm, hri⟩ := (HH2.out.below hb) k hkl
      have HOT := hid (show (decide (l[k].shown.length ≤ 20) && decide (l[k].read.length ≤ 20)) = (decide (sn ≤ 20) && decide (rn ≤ 20)) by rw [hsn, hrn])
      have HKL := hid hkl
      have HB := hid (hb.alloc hb.size (.cells #[.slice sa sn sc, .slice ra rn rc] 32))
      unfold maxLen at hrm hsm
      clear hsn hsi hrn hri hb
      by_cases hs : sn ≤ 20
      · by_cases hr : rn ≤ 20
        · go_wp2
          refine ⟨⟨k + 1, by omega, by go_num, HB.out, hid (fun j hj hjk => ?_)⟩, by simp [intOf]; omega⟩
          rcases Nat.lt_or_ge j k with h | h
          · exact hno.out j hj h
          · obtain rfl : j = k := by omega
            rw [HOT.out]; simp [hs, hr]
        · go_wp2
          go_ret
          exact ⟨ret_bool (by rw [HE.out, all_stop (p := fun t => decide (t.shown.length ≤ 20) && decide (t.read.length ≤ 20)) HKL.out (by rw [HOT.out]; simp [hr])]; rfl), HB.out⟩
      · go_wp2
        go_ret
        exact ⟨ret_bool (by rw [HE.out, all_stop (p := fun t => decide (t.shown.length ≤ 20) && decide (t.read.length ≤ 20)) HKL.out (by rw [HOT.out]; simp [hs])]; rfl), HB.out⟩
    · obtain rfl : k = n2 := by omega
      have hall : l.all (fun t => decide (t.shown.length ≤ 20) && decide (t.read.length ≤ 20)) = true := all_done (fun j hj => hno.out j hj (by rw [← HN2.out]; exact hj))
      have HE2 := hid (show fitT l = decide (k ≤ 16) by rw [HE.out, hall, Bool.true_and])
      clear hall hno
      go_wp2
      go_ret
      exact ⟨ret_bool (by rw [HE2.out]; simp; omega), hb⟩
end Go.Proofs.YtddcamcdjkiadaaGreatDoor

namespace Go.Proofs.YtddcamcdjkiadaaGreatDoor
open Go Go.Lib
set_option linter.unusedVariables false

def lineB (x : Tst) : List UInt8 := joinW (x.shown.map itoa ++ ([[58]] ++ x.read.map itoa))
def lineT (x : Tst) : List UInt8 := lineB x ++ [10]
def inR (n : Int) : Bool := decide (-1000000000 ≤ n) && decide (n ≤ 1000000000)
def okX (x : Tst) : Bool := !x.shown.isEmpty && !x.read.isEmpty && (x.shown ++ x.read).all inR

theorem itoa_free (n : Int) : (32 : UInt8) ∉ itoa n ∧ (10 : UInt8) ∉ itoa n := ⟨itoa_no n 32 (by decide), itoa_no n 10 (by decide)⟩
theorem itoa_colon (n : Int) : (58 : UInt8) ∉ itoa n := by
  intro h
  rcases itoa_mem n 58 h with h | h <;> simp at h
theorem itoa_ne58 (n : Int) : itoa n ≠ [58] := fun h => itoa_colon n (by rw [h]; simp)
theorem line_words (x : Tst) : wordsF (lineB x) = x.shown.map itoa ++ ([[58]] ++ x.read.map itoa) := by
  refine words_join _ (by simp) fun w hw => ?_
  rcases List.mem_append.1 hw with hw | hw
  · obtain ⟨n, _, rfl⟩ := List.mem_map.1 hw; exact (itoa_free n).1
  · rcases List.mem_append.1 hw with hw | hw
    · simp at hw; subst hw; decide
    · obtain ⟨n, _, rfl⟩ := List.mem_map.1 hw; exact (itoa_free n).1
theorem line_no10 (x : Tst) : (10 : UInt8) ∉ lineB x := by
  intro h
  rcases mem_join _ h with h | ⟨w, hw, h⟩
  · simp at h
  · rcases List.mem_append.1 hw with hw | hw
    · obtain ⟨n, _, rfl⟩ := List.mem_map.1 hw; exact (itoa_free n).2 h
    · rcases List.mem_append.1 hw with hw | hw
      · simp at hw; subst hw; simp at h
      · obtain ⟨n, _, rfl⟩ := List.mem_map.1 hw; exact (itoa_free n).2 h
theorem cut_line (x : Tst) (r : List UInt8) : cut (lineT x ++ r) [10] = (lineB x, r, true) := by
  have e : lineT x ++ r = lineB x ++ 10 :: r := by simp [lineT]
  rw [e]; exact cut_one _ _ _ (line_no10 x)
def numJ (l : List Int) : List UInt8 := joinW (l.map itoa)
theorem numJ_colon (l : List Int) : (58 : UInt8) ∉ numJ l := by
  intro h
  rcases mem_join _ h with h | ⟨w, hw, h⟩
  · simp at h
  · obtain ⟨n, _, rfl⟩ := List.mem_map.1 hw; exact itoa_colon n h
theorem line_join {x : Tst} (h1 : x.shown ≠ []) (h2 : x.read ≠ []) : lineB x = numJ x.shown ++ [32, 58, 32] ++ numJ x.read := by
  unfold lineB numJ
  rw [join_app _ _ (by simpa using h1) (by simp), join_app [[58]] _ (by simp) (by simpa using h2)]
  simp [joinW]
theorem numT_join : ∀ {l : List Int}, l ≠ [] → numT l = numJ l ++ [32]
  | [], h => absurd rfl h
  | [n], _ => by simp [numT, numJ, joinW]
  | n :: m :: l, _ => by
    have ih := numT_join (l := m :: l) (by simp)
    rw [numT_cons, ih]
    simp [numJ, joinW]

def wrT (x : Tst) : List UInt8 := trimSuffix (numT x.shown ++ [58, 32] ++ numT x.read) [32] ++ [10]
theorem wr_line {x : Tst} (h1 : x.shown ≠ []) (h2 : x.read ≠ []) : wrT x = lineT x := by
  unfold wrT lineT
  congr 1
  rw [line_join h1 h2, numT_join h1, numT_join h2]
  have e : numJ x.shown ++ [32] ++ [58, 32] ++ (numJ x.read ++ [32]) = (numJ x.shown ++ [32, 58, 32] ++ numJ x.read) ++ [32] := by simp
  rw [e]
  unfold trimSuffix
  have hs : hasSuffix (numJ x.shown ++ [32, 58, 32] ++ numJ x.read ++ [32]) [32] = true := by
    unfold hasSuffix
    exact List.isSuffixOf_iff_suffix.2 ⟨_, rfl⟩
  rw [if_pos hs]
  generalize numJ x.shown ++ [32, 58, 32] ++ numJ x.read = A
  rw [List.length_append, Nat.add_sub_cancel, List.take_left]

structure PSt where
  sh : List Int
  rd : List Int
  sw : Bool
  ok : Bool
def pstep (t : PSt) (w : List UInt8) : PSt :=
  if w = [58] ∧ t.sw = false then { t with sw := true } else
  if t.sw then { t with rd := t.rd ++ [atV w], ok := t.ok && inR (atV w) } else { t with sh := t.sh ++ [atV w], ok := t.ok && inR (atV w) }
def pfold (ok : Bool) (ws : List (List UInt8)) : PSt := ws.foldl pstep ⟨[], [], false, ok⟩
theorem pfold_snoc (ok : Bool) (ws : List (List UInt8)) (w : List UInt8) : pfold ok (ws ++ [w]) = pstep (pfold ok ws) w := by simp [pfold]
theorem fold_shown : ∀ (l : List Int) (t : PSt), t.sw = false → (∀ n ∈ l, -9223372036854775808 ≤ n ∧ n ≤ 9223372036854775807) → (l.map itoa).foldl pstep t = { t with sh := t.sh ++ l, ok := t.ok && l.all inR }
  | [], t, _, _ => by simp
  | n :: l, t, h, hn => by
    have e : pstep t (itoa n) = { t with sh := t.sh ++ [n], ok := t.ok && inR n } := by
      unfold pstep
      rw [if_neg (fun h => itoa_ne58 n h.1), if_neg (by simp [h]), atV_itoa n (hn n (by simp)).1 (hn n (by simp)).2]
    rw [List.map_cons, List.foldl_cons, e, fold_shown l { t with sh := t.sh ++ [n], ok := t.ok && inR n } h (fun m hm => hn m (by simp [hm]))]
    simp [Bool.and_assoc]
theorem fold_read : ∀ (l : List Int) (t : PSt), t.sw = true → (∀ n ∈ l, -9223372036854775808 ≤ n ∧ n ≤ 9223372036854775807) → (l.map itoa).foldl pstep t = { t with rd := t.rd ++ l, ok := t.ok && l.all inR }
  | [], t, _, _ => by simp
  | n :: l, t, h, hn => by
    have e : pstep t (itoa n) = { t with rd := t.rd ++ [n], ok := t.ok && inR n } := by
      unfold pstep
      rw [if_neg (fun h2 => by rw [h] at h2; simp at h2), if_pos h, atV_itoa n (hn n (by simp)).1 (hn n (by simp)).2]
    rw [List.map_cons, List.foldl_cons, e, fold_read l { t with rd := t.rd ++ [n], ok := t.ok && inR n } h (fun m hm => hn m (by simp [hm]))]
    simp [Bool.and_assoc]
theorem okX_parts {x : Tst} (h : okX x = true) : x.shown ≠ [] ∧ x.read ≠ [] ∧ (∀ n ∈ x.shown, inR n = true) ∧ ∀ n ∈ x.read, inR n = true := by
  unfold okX at h
  simp only [Bool.and_eq_true, Bool.not_eq_true', List.all_append, List.all_eq_true] at h
  obtain ⟨⟨h1, h2⟩, h3, h4⟩ := h
  exact ⟨by intro e; rw [e] at h1; simp at h1, by intro e; rw [e] at h2; simp at h2, h3, h4⟩
theorem inR_bd {n : Int} (h : inR n = true) : -1000000000 ≤ n ∧ n ≤ 1000000000 := by simpa [inR] using h
theorem pfold_line {x : Tst} (h : okX x = true) (ok : Bool) : pfold ok (wordsF (lineB x)) = ⟨x.shown, x.read, true, ok⟩ := by
  obtain ⟨h1, h2, h3, h4⟩ := okX_parts h
  rw [line_words]
  unfold pfold
  rw [List.foldl_append, List.foldl_append, fold_shown x.shown _ rfl (fun n hn => by have := inR_bd (h3 n hn); omega)]
  have e : [[58]].foldl pstep { sh := [] ++ x.shown, rd := [], sw := false, ok := ok && x.shown.all inR } = { sh := [] ++ x.shown, rd := [], sw := true, ok := ok && x.shown.all inR } := by simp [pstep]
  simp only [] at e ⊢
  rw [e, fold_read x.read _ rfl (fun n hn => by have := inR_bd (h4 n hn); omega)]
  have e1 : x.shown.all inR = true := List.all_eq_true.2 h3
  have e2 : x.read.all inR = true := List.all_eq_true.2 h4
  simp [e1, e2]
theorem pfold_ok (ok : Bool) : ∀ ws : List (List UInt8), (pfold ok ws).ok = true → ok = true ∧ (∀ n ∈ (pfold ok ws).sh, inR n = true) ∧ ∀ n ∈ (pfold ok ws).rd, inR n = true := by
  intro ws
  induction ws using snoc_ind with
  | h0 => intro h; exact ⟨h, fun n hn => by simp [pfold] at hn, fun n hn => by simp [pfold] at hn⟩
  | h1 ws w ih =>
    rw [pfold_snoc]
    generalize pfold ok ws = t at ih ⊢
    unfold pstep
    split
    · exact ih
    · split
      · intro h
        simp only [Bool.and_eq_true] at h
        obtain ⟨q1, q2, q3⟩ := ih h.1
        refine ⟨q1, q2, fun n hn => ?_⟩
        rcases List.mem_append.1 hn with hn | hn
        · exact q3 n hn
        · simp at hn; rw [hn]; exact h.2
      · intro h
        simp only [Bool.and_eq_true] at h
        obtain ⟨q1, q2, q3⟩ := ih h.1
        refine ⟨q1, fun n hn => ?_, q3⟩
        rcases List.mem_append.1 hn with hn | hn
        · exact q2 n hn
        · simp at hn; rw [hn]; exact h.2
def progStep (k : Nat) (s : List UInt8) : Option (Tst × List UInt8) :=
  let t := pfold (decide (k < 12)) (wordsF (cut s [10]).1)
  if t.ok = true ∧ t.sh ≠ [] ∧ t.rd ≠ [] ∧ hasPrefix s (wrT ⟨t.sh, t.rd⟩) = true then some (⟨t.sh, t.rd⟩, (cut s [10]).2.1) else none
theorem prog_iff (k : Nat) (s : List UInt8) (x : Tst) (r : List UInt8) : progStep k s = some (x, r) ↔ k < 12 ∧ okX x = true ∧ s = lineT x ++ r := by
  unfold progStep
  simp only []
  constructor
  · intro h
    split at h
    · rename_i hc
      obtain ⟨h1, h2, h3, h4⟩ := hc
      obtain ⟨rfl, rfl⟩ := Prod.mk.inj (Option.some.inj h)
      obtain ⟨q1, q2, q3⟩ := pfold_ok _ _ h1
      rw [wr_line h2 h3] at h4
      obtain ⟨u, hu⟩ := List.isPrefixOf_iff_prefix.1 h4
      refine ⟨by simpa using q1, ?_, ?_⟩
      · unfold okX
        simp only [Bool.and_eq_true, Bool.not_eq_true', List.all_append, List.all_eq_true]
        refine ⟨⟨?_, ?_⟩, q2, q3⟩
        · cases hq : (pfold (decide (k < 12)) (wordsF (cut s [10]).1)).sh with
          | nil => exact absurd hq h2
          | cons a l => rfl
        · cases hq : (pfold (decide (k < 12)) (wordsF (cut s [10]).1)).rd with
          | nil => exact absurd hq h3
          | cons a l => rfl
      · generalize ({ shown := (pfold (decide (k < 12)) (wordsF (cut s [10]).1)).sh, read := (pfold (decide (k < 12)) (wordsF (cut s [10]).1)).rd } : Tst) = x at hu ⊢
        have e := cut_line x u
        rw [hu] at e
        rw [e]
        exact hu.symm
    · cases h
  · rintro ⟨h1, h2, rfl⟩
    obtain ⟨q1, q2, _⟩ := okX_parts h2
    rw [cut_line]
    simp only []
    rw [pfold_line h2]
    simp only []
    rw [if_pos]
    refine ⟨by simpa using h1, q1, q2, ?_⟩
    rw [wr_line q1 q2]
    exact List.isPrefixOf_iff_prefix.2 ⟨r, rfl⟩

def refN (ws : List (List UInt8)) : Bool := ws.all fun w => decide (itoa (atV w) = w) && inR (atV w)
theorem refN_nums {ws : List (List UInt8)} (h : refN ws = true) : ws = (ws.map atV).map itoa := by
  unfold refN at h
  rw [List.all_eq_true] at h
  rw [List.map_map]
  conv => lhs; rw [← List.map_id ws]
  apply List.map_congr_left
  intro w hw
  have := h w hw
  simp only [Bool.and_eq_true, decide_eq_true_eq] at this
  exact this.1.symm
theorem refN_num {l : List Int} (h : ∀ n ∈ l, inR n = true) : refN (l.map itoa) = true ∧ (l.map itoa).map atV = l := by
  have ha : ∀ n ∈ l, atV (itoa n) = n := fun n hn => by have := inR_bd (h n hn); exact atV_itoa n (by omega) (by omega)
  constructor
  · unfold refN
    rw [List.all_eq_true]
    intro w hw
    obtain ⟨n, hn, rfl⟩ := List.mem_map.1 hw
    simp [ha n hn, h n hn]
  · rw [List.map_map]
    conv => rhs; rw [← List.map_id l]
    exact List.map_congr_left fun n hn => ha n hn
theorem cut_hit' {s sep : List UInt8} (h : (cut s sep).2.2 = true) : s = (cut s sep).1 ++ sep ++ (cut s sep).2.1 := by
  refine cut_hit (sep := sep) ?_
  exact Prod.ext rfl (Prod.ext rfl h)
def refStep (k : Nat) (s : List UInt8) : Option (Tst × List UInt8) :=
  let c := cut s [10]
  let d := cut c.1 [32, 58, 32]
  if c.2.2 = true ∧ d.2.2 = true ∧ refN (wordsF d.1) = true ∧ refN (wordsF d.2.1) = true ∧ k ≠ 12 then some (⟨(wordsF d.1).map atV, (wordsF d.2.1).map atV⟩, c.2.1) else none
theorem ref_iff (k : Nat) (s : List UInt8) (x : Tst) (r : List UInt8) : refStep k s = some (x, r) ↔ k ≠ 12 ∧ okX x = true ∧ s = lineT x ++ r := by
  unfold refStep
  simp only []
  constructor
  · intro h
    split at h
    · rename_i hc
      obtain ⟨h1, h2, h3, h4, h5⟩ := hc
      obtain ⟨rfl, rfl⟩ := Prod.mk.inj (Option.some.inj h)
      have e1 := cut_hit' h1
      have e2 := cut_hit' h2
      clear h h1 h2
      generalize (cut s [10]).2.1 = u at e1 ⊢
      generalize (cut s [10]).1 = t at e1 e2 h3 h4 ⊢
      generalize (cut t [32, 58, 32]).1 = p at e2 h3 h4 ⊢
      generalize (cut t [32, 58, 32]).2.1 = q at e2 h3 h4 ⊢
      have w1 := refN_nums h3
      have w2 := refN_nums h4
      have j1 : numJ ((wordsF p).map atV) = p := by unfold numJ; rw [← w1, join_words]
      have j2 : numJ ((wordsF q).map atV) = q := by unfold numJ; rw [← w2, join_words]
      have n1 : (wordsF p).map atV ≠ [] := by simpa using words_ne p
      have n2 : (wordsF q).map atV ≠ [] := by simpa using words_ne q
      refine ⟨h5, ?_, ?_⟩
      · unfold okX
        simp only [Bool.and_eq_true, Bool.not_eq_true', List.all_append, List.all_eq_true]
        refine ⟨⟨?_, ?_⟩, fun n hn => ?_, fun n hn => ?_⟩
        · cases hq : (wordsF p).map atV with
          | nil => exact absurd hq n1
          | cons a l => rfl
        · cases hq : (wordsF q).map atV with
          | nil => exact absurd hq n2
          | cons a l => rfl
        · obtain ⟨w, hw, rfl⟩ := List.mem_map.1 hn
          have := List.all_eq_true.1 h3 w hw
          simp only [Bool.and_eq_true] at this
          exact this.2
        · obtain ⟨w, hw, rfl⟩ := List.mem_map.1 hn
          have := List.all_eq_true.1 h4 w hw
          simp only [Bool.and_eq_true] at this
          exact this.2
      · rw [e1, e2]
        unfold lineT
        rw [line_join (x := ⟨(wordsF p).map atV, (wordsF q).map atV⟩) n1 n2]
        simp only [j1, j2]
    · cases h
  · rintro ⟨h1, h2, rfl⟩
    obtain ⟨q1, q2, q3, q4⟩ := okX_parts h2
    rw [cut_line]
    simp only []
    rw [line_join q1 q2, cut_second _ _ 32 58 32 (numJ_colon _) (by decide)]
    simp only []
    have w1 : wordsF (numJ x.shown) = x.shown.map itoa := words_join _ (by simpa using q1) fun w hw => by
      obtain ⟨n, _, rfl⟩ := List.mem_map.1 hw; exact (itoa_free n).1
    have w2 : wordsF (numJ x.read) = x.read.map itoa := words_join _ (by simpa using q2) fun w hw => by
      obtain ⟨n, _, rfl⟩ := List.mem_map.1 hw; exact (itoa_free n).1
    rw [w1, w2, (refN_num q3).2, (refN_num q4).2, if_pos ⟨trivial, trivial, (refN_num q3).1, (refN_num q4).1, h1⟩]
theorem step_same {k : Nat} (hk : k ≤ 12) (s : List UInt8) : refStep k s = progStep k s := by
  apply Option.ext
  rintro ⟨x, r⟩
  rw [ref_iff, prog_iff]
  constructor
  · rintro ⟨h1, h2⟩; exact ⟨by omega, h2⟩
  · rintro ⟨h1, h2⟩; exact ⟨by omega, h2⟩

def parseF : Nat → List Tst → List UInt8 → List Tst × Nat × Int
  | 0, acc, s => if s = [] then (acc, 0, 0) else ([], acc.length, 2)
  | f + 1, acc, s => if s = [] then (acc, 0, 0) else match progStep acc.length s with | none => ([], acc.length, 2) | some (x, r) => parseF f (acc ++ [x]) r
theorem parse_end (f : Nat) (acc : List Tst) : parseF f acc [] = (acc, 0, 0) := by cases f <;> simp [parseF]
theorem parse_bad {f : Nat} {acc : List Tst} {s : List UInt8} (h : s ≠ []) (hs : progStep acc.length s = none) : parseF f acc s = ([], acc.length, 2) := by
  cases f with
  | zero => rw [parseF, if_neg h]
  | succ f => rw [parseF, if_neg h, hs]
theorem parse_step {f : Nat} {acc : List Tst} {s r : List UInt8} {x : Tst} (h : s ≠ []) (hs : progStep acc.length s = some (x, r)) : parseF (f + 1) acc s = parseF f (acc ++ [x]) r := by
  rw [parseF, if_neg h, hs]
theorem step_less {k : Nat} {s r : List UInt8} {x : Tst} (h : progStep k s = some (x, r)) : r.length < s.length := by
  obtain ⟨_, _, rfl⟩ := (prog_iff k s x r).1 h
  simp [lineT]; omega
def parseT (s : List UInt8) : List Tst × Nat × Int := if 65536 < s.length then ([], 0, 3) else parseF s.length [] s
def formatT (t : List Tst) : List UInt8 := if 12 < t.length ∨ t.any (fun x => x.shown.isEmpty || x.read.isEmpty) = true then [] else t.flatMap lineT
theorem line_ne (x : Tst) : lineT x ≠ [] := by simp [lineT]
theorem parse_len : ∀ (f : Nat) (acc : List Tst) (s : List UInt8), acc.length ≤ 12 → (parseF f acc s).1.length ≤ 12
  | 0, acc, s, h => by unfold parseF; split <;> simp <;> omega
  | f + 1, acc, s, h => by
    unfold parseF
    split
    · exact h
    · cases hp : progStep acc.length s with
      | none => simp
      | some q =>
        obtain ⟨x, r⟩ := q
        refine parse_len f _ r ?_
        have := ((prog_iff _ _ _ _).1 hp).1
        simp; omega
theorem parse_few (s : List UInt8) : (parseT s).1.length ≤ 12 := by
  unfold parseT
  split
  · simp
  · exact parse_len _ _ _ (by simp)
theorem parse_lines : ∀ (t acc : List Tst) (f : Nat), (∀ x ∈ t, okX x = true) → acc.length + t.length ≤ 12 → t.length ≤ f → parseF f acc (t.flatMap lineT) = (acc ++ t, 0, 0)
  | [], acc, f, _, _, _ => by rw [List.flatMap_nil, parse_end]; simp
  | x :: t, acc, f, h, hl, hf => by
    cases f with
    | zero => simp at hf
    | succ f =>
      have hs : progStep acc.length ((x :: t).flatMap lineT) = some (x, t.flatMap lineT) := (prog_iff _ _ _ _).2 ⟨by simp at hl; omega, h x (by simp), by simp⟩
      rw [parse_step (by simp [line_ne]) hs, parse_lines t (acc ++ [x]) f (fun y hy => h y (by simp [hy])) (by simp at hl ⊢; omega) (by simpa using hf)]
      simp
end Go.Proofs.YtddcamcdjkiadaaGreatDoor

namespace Go.Proofs.YtddcamcdjkiadaaGreatDoor
open Go.RowKit
set_option linter.unusedVariables false

theorem sameInts_d (W : World) (a a2 : Option Addr) (n n2 cap cap2 : Nat) (l l2 : List Int) (D : Bool) (hn : l.length = n) (hn2 : l2.length = n2) (hm : n ≤ maxLen) (hm2 : n2 ≤ maxLen) (H : IntsAt W a l) (H2 : IntsAt W a2 l2) (hD : D = decide (l = l2)) :
    Calls Tryz.prog 30 #[.slice a n cap, .slice a2 n2 cap2] W fun e w' => e = .returned (.bool D) ∧ Below W.heap.size W w' := by
  subst hD
  exact (sameInts_c W a a2 n cap n2 cap2 l l2 hn hn2 hm hm2 H H2).mono fun e w' ⟨h1, k, h2⟩ => ⟨h1, by rw [h2]; exact below_drewN (Below.refl _ _) _⟩

end Go.Proofs.YtddcamcdjkiadaaGreatDoor

namespace Go.Proofs.YtddcamcdjkiadaaGreatDoor
open Go.RowKit
set_option linter.unusedVariables false

def wAll (_ : Nat) : Bool := true

theorem AnyT.takeD {P : Program} {md : Region.Mode} {ops : Array Oper} {Q : Exit → Act → World → Prop} {S : World → Prop} {i d : Nat} {oi : Oper} {v : Value} {fuel : Nat} {listed : Array Bool} {a : Act} {w : World} {Wf : Nat → Bool} (hi : ops[i]? = some oi) (hd : oi.dst = some d)
    (hs : Region.noSelect ops = true) (hf : Region.free md ops listed i = true) (hr : (Region.ready md ops listed).contains i = true)
    (hQ : ∀ c a w, Q (.panic c) (a.put (some d) v) w → Q (.panic c) a w)
    (hW : (List.range ops.size).all (fun j => waits md ops i j || Wf j) = true) (hw : Region.wanted oi (yielded ops a.tmps) = true) (hy : ∀ w, S w → (execOp a.eval oi).run P w = .ok (.value v) w) (hS : S w)
    (h : AnyT P md ops Q (fun j w => Wf j = true → S w) fuel (listed.setIfInBounds i true) (a.put (some d) v) w) : AnyT P md ops Q (fun j w => Wf j = true → S w) (fuel + 1) listed a w :=
  AnyT.takeW hi hs hf hr (by rw [hd]; exact hQ) hW hw hy hS (by rw [hd]; exact h)
end Go.Proofs.YtddcamcdjkiadaaGreatDoor

namespace Go.Proofs.YtddcamcdjkiadaaGreatDoor
open Go.RowKit
set_option linter.unusedVariables false

theorem info_test : (Tryz.prog.info? 32).map (fun i => (i.zero, i.size, i.bytes)) = some (some (.agg #[.slice none 0 0, .slice none 0 0]), 2, 48) := by kernel_rfl

def TestsO (W : World) (base : Nat) (v : Value) (T : List Tst) : Prop :=
  ∃ xs, W.ownsRow base 32 2 v T.length xs ∧ ∀ j (hj : j < T.length), ∃ us ur, xs[j * 2]? = some us ∧ xs[j * 2 + 1]? = some ur ∧ ElemI 3 W base (fun _ => True) us T[j].shown ∧ ElemI 3 W base (fun _ => True) ur T[j].read
theorem TestsO.nil (W : World) (base : Nat) : TestsO W base (.slice none 0 0) [] := ⟨[], World.ownsRow_nil _ _ _ _, fun j hj => by simp at hj⟩
theorem TestsO.below {W W' : World} {base : Nat} {v : Value} {T : List Tst} (h : TestsO W base v T) (hb : Below W.heap.size W W') : TestsO W' base v T := by
  obtain ⟨xs, ho, he⟩ := h
  refine ⟨xs, own_below ho hb, fun j hj => ?_⟩
  obtain ⟨us, ur, h1, h2, h3, h4⟩ := he j hj
  exact ⟨us, ur, h1, h2, h3.keep (Keep.of_below hb : Keep (fun _ => True) _ _) (fun _ _ _ _ => trivial), h4.keep (Keep.of_below hb : Keep (fun _ => True) _ _) (fun _ _ _ _ => trivial)⟩
theorem TestsO.slice {W : World} {base : Nat} {v : Value} {T : List Tst} (h : TestsO W base v T) : ∃ a c, v = .slice a T.length c := by
  obtain ⟨xs, ho, _⟩ := h; exact ownsRow_slice ho
theorem TestsO.reads {W : World} {base : Nat} {v : Value} {T : List Tst} (h : TestsO W base v T) : ∃ a cap, v = .slice a T.length cap ∧ T.length ≤ maxLen ∧ TestsAt W a T := by
  obtain ⟨xs, ho, he⟩ := h
  rcases ho.2 with ⟨rfl, h0⟩ | ⟨g, cap, cur, rfl, hbg, hgg, hnc, hcm, hsz, htk⟩
  · exact ⟨none, 0, by rw [h0], by rw [h0]; decide, fun j hj => by omega⟩
  · refine ⟨_, cap, rfl, by omega, fun j hj => ?_⟩
    obtain ⟨us, ur, h1, h2, h3, h4⟩ := he j hj
    have hc : ∀ i, i < T.length * 2 → W.cell? ⟨g, i, none⟩ = xs[i]? := fun i hi =>
      World.ownsRow.cellAt (w := W) (base := base) (e := 32) (size := 2) (g := g) (n := T.length) (cap := cap) (xs := xs) ⟨ho.1, .inr ⟨g, cap, cur, rfl, hbg, hgg, hnc, hcm, hsz, htk⟩⟩ i hi
    obtain ⟨sa, sn, sc, rfl, _⟩ := id h3
    obtain ⟨ra, rn, rc, rfl, _⟩ := id h4
    obtain ⟨k1, k2, k3⟩ := h3.ints
    obtain ⟨m1, m2, m3⟩ := h4.ints
    exact ⟨g, 0, sa, sn, sc, ra, rn, rc, rfl, (Array.getElem?_eq_some_iff.1 hgg).1, by rw [Nat.zero_add, hc _ (by omega)]; exact h1, by rw [Nat.zero_add, hc _ (by omega)]; exact h2, k1, k2, k3, m1, m2, m3⟩
theorem TestsO.snoc {W w1 w2 : World} {base : Nat} {v v' us ur : Value} {T : List Tst} {t : Tst} {xs : List Value}
    (ho : W.ownsRow base 32 2 v T.length xs) (he : ∀ j (hj : j < T.length), ∃ us ur, xs[j * 2]? = some us ∧ xs[j * 2 + 1]? = some ur ∧ ElemI 3 W base (fun _ => True) us T[j].shown ∧ ElemI 3 W base (fun _ => True) ur T[j].read)
    (h1 : ElemI 3 W base (fun _ => True) us t.shown) (h2 : ElemI 3 W base (fun _ => True) ur t.read)
    (hW1 : Below W.heap.size W w1) (hg : w1.grownBy w2 v.ownBlock) (ho' : w2.ownsRow base 32 2 v' (T.length + 1) (xs ++ [us, ur])) : TestsO w2 base v' (T ++ [t]) := by
  have hlen : xs.length = T.length * 2 := ho.1
  have hgb : ∀ b, (b < base ∨ ∃ c f, W.heap[b]? = some (.cells c 3 f)) → b < W.heap.size → w2.heap[b]? = W.heap[b]? := by
    intro b hty hb
    refine (hg.block b (Nat.lt_of_lt_of_le hb hW1.size) ?_).trans (hW1.block b hb)
    rcases ho.2 with ⟨rfl, _⟩ | ⟨g, cap, cur, rfl, hbg, hgg, _⟩
    · simp [Value.ownBlock]
    · intro e
      obtain rfl : b = g := by simpa [Value.ownBlock] using e
      rcases hty with h | ⟨c, f, h⟩
      · omega
      · rw [h] at hgg; cases hgg
  have hel : ∀ u l, ElemI 3 W base (fun _ => True) u l → ElemI 3 w2 base (fun _ => True) u l := by
    intro u l h
    refine h.keep (T := fun b => b < W.heap.size ∧ (b < base ∨ ∃ c f, W.heap[b]? = some (.cells c 3 f))) ⟨hg.os.trans hW1.os, hg.tape.trans hW1.tape, hg.output.trans hW1.output, Nat.le_trans hW1.size hg.size, fun k hk hT => hgb k hT.2 hk⟩ fun b _ hb hty => ⟨hb, hty⟩
  refine ⟨xs ++ [us, ur], by rw [List.length_append]; exact ho', fun j hj => ?_⟩
  by_cases e : j < T.length
  · obtain ⟨us', ur', k1, k2, k3, k4⟩ := he j e
    refine ⟨us', ur', by rw [List.getElem?_append_left (by omega)]; exact k1, by rw [List.getElem?_append_left (by omega)]; exact k2, ?_, ?_⟩
    · rw [List.getElem_append_left e]; exact hel _ _ k3
    · rw [List.getElem_append_left e]; exact hel _ _ k4
  · have : j = T.length := by simp at hj; omega
    subst this
    refine ⟨us, ur, by rw [List.getElem?_append_right (by omega), hlen]; simp, by rw [List.getElem?_append_right (by omega), hlen, show T.length * 2 + 1 - T.length * 2 = 1 by omega]; rfl, ?_, ?_⟩
    · simp only [List.getElem_append_right (Nat.le_refl _), Nat.sub_self, List.getElem_cons_zero]; exact hel _ _ h1
    · simp only [List.getElem_append_right (Nat.le_refl _), Nat.sub_self, List.getElem_cons_zero]; exact hel _ _ h2

end Go.Proofs.YtddcamcdjkiadaaGreatDoor

namespace Go.Proofs.YtddcamcdjkiadaaGreatDoor
open Go.RowKit
set_option linter.unusedVariables false

theorem cell_inT {w : World} {a : Addr} {v : Value} (h : w.cell? a = some v) : a.block < w.heap.size := by
  unfold World.cell? at h
  split at h
  · rename_i c _ _ hb
    exact (Array.getElem?_eq_some_iff.1 hb).1
  · simp at h

def HeadT (W : World) (xs : List Value) (L : List Tst) : Prop :=
  xs.length = L.length * 2 ∧ ∀ j (hj : j < L.length), ∃ sa sn sc ra rn rc, xs[j * 2]? = some (.slice sa sn sc) ∧ xs[j * 2 + 1]? = some (.slice ra rn rc) ∧ L[j].shown.length = sn ∧ sn ≤ maxLen ∧ IntsAt W sa L[j].shown ∧ L[j].read.length = rn ∧ rn ≤ maxLen ∧ IntsAt W ra L[j].read
theorem HeadT.below {W W' : World} {xs : List Value} {L : List Tst} (h : HeadT W xs L) (hb : Below W.heap.size W W') : HeadT W' xs L :=
  ⟨h.1, fun j hj => by
    obtain ⟨sa, sn, sc, ra, rn, rc, h1, h2, h3, h4, h5, h6, h7, h8⟩ := h.2 j hj
    exact ⟨sa, sn, sc, ra, rn, rc, h1, h2, h3, h4, h5.below hb, h6, h7, h8.below hb⟩⟩
theorem HeadT.append {W : World} {xs ys : List Value} {L K : List Tst} (h : HeadT W xs L) (k : HeadT W ys K) : HeadT W (xs ++ ys) (L ++ K) := by
  refine ⟨by rw [List.length_append, List.length_append, h.1, k.1]; omega, fun j hj => ?_⟩
  by_cases e : j < L.length
  · obtain ⟨sa, sn, sc, ra, rn, rc, h1, h2, h3⟩ := h.2 j e
    refine ⟨sa, sn, sc, ra, rn, rc, by rw [List.getElem?_append_left (by rw [h.1]; omega)]; exact h1, by rw [List.getElem?_append_left (by rw [h.1]; omega)]; exact h2, ?_⟩
    rw [List.getElem_append_left e]; exact h3
  · have hj2 : j - L.length < K.length := by simp at hj; omega
    obtain ⟨sa, sn, sc, ra, rn, rc, h1, h2, h3⟩ := k.2 (j - L.length) hj2
    refine ⟨sa, sn, sc, ra, rn, rc, by rw [List.getElem?_append_right (by rw [h.1]; omega), h.1, show j * 2 - L.length * 2 = (j - L.length) * 2 by omega]; exact h1, by rw [List.getElem?_append_right (by rw [h.1]; omega), h.1, show j * 2 + 1 - L.length * 2 = (j - L.length) * 2 + 1 by omega]; exact h2, ?_⟩
    rw [List.getElem_append_right (by omega)]; exact h3
end Go.Proofs.YtddcamcdjkiadaaGreatDoor

namespace Go.Proofs.YtddcamcdjkiadaaGreatDoor
open Go.RowKit Go.Shelf
set_option linter.unusedVariables false

set_option maxHeartbeats 2000000 in
set_option maxRecDepth 100000 in
theorem writeString_c (B b : Nat) (bs : List Value) (s : ByteArray) (w : World) (h : Lib.IsBuilder 70 5 B b bs w) (hlen : bs.length + s.size ≤ 140737488355328) (hBw : B ≤ w.heap.size) :
    Calls Tryz.prog 33 #[.pointer (some ⟨b, 0, none⟩), .string s] w fun e w' => e = .returned (.tuple #[.int .i64 s.size, .nilIface]) ∧ (Lib.IsBuilder 70 5 B b (bs ++ Lib.strCells s) w' ∧ Below B w w') := by
  obtain ⟨i0, hi, hz0, hz1, hz2⟩ := info_parts infoByte
  go_enter Tryz.func33, Tryz.ntmps33
  go_wp2_with (go_at_call 62; refine (copyCheck_c B b bs _ h).mono ?_)
  rintro e w1 ⟨rfl, h1, hb1⟩
  obtain ⟨hB, v, hbk, hown, hne⟩ := h1
  have c0 : w1.cell? ⟨b, 0, none⟩ = some (.pointer (some ⟨b, 0, none⟩)) := by rw [Lib.cell_of_heap hbk]; rfl
  have c1 : w1.cell? ⟨b, 1, none⟩ = some v := by rw [Lib.cell_of_heap hbk]; rfl
  go_wp2_with (at_builtin; refine Lib.wpList_append_own_string _ rfl _ _ 68 9 rfl B 5 i0 Tryz.underlying68 Tryz.underlying9 hi hz0 hz1 hz2 _ _ _ rfl hown s rfl ?c3 ?c4 ?c5 ?_)
  case c3 => unfold maxLen; omega
  case c4 => omega
  case c5 => have := hb1.size; omega
  intro v' w2 hown' hgrow _
  have hlt : b < w1.heap.size := by
    rcases Nat.lt_or_ge b w1.heap.size with h' | h'
    · exact h'
    · simp [Array.getElem?_eq_none h'] at hbk
  have hb2 : w2.heap[b]? = some (.cells #[.pointer (some ⟨b, 0, none⟩), v] 70 (0, 0)) := by
    rw [hgrow.block b hlt (fun e => hne e.symm)]
    exact hbk
  have d0 : w2.cell? ⟨b, 0, none⟩ = some (.pointer (some ⟨b, 0, none⟩)) := by rw [Lib.cell_of_heap hb2]; rfl
  have d1 : w2.cell? ⟨b, 1, none⟩ = some v := by rw [Lib.cell_of_heap hb2]; rfl
  have f1 : w2.frozen? ⟨b, 1, none⟩ = false := Lib.frozen_of_heap hb2 1
  obtain ⟨ao, n', cap, rfl⟩ : ∃ ao n' cap, v' = .slice ao n' cap := by
    rcases hown'.2 with ⟨hv, _⟩ | ⟨g, cap, cur, hv, _⟩
    · exact ⟨_, _, _, hv⟩
    · exact ⟨_, _, _, hv⟩
  go_wp2
  go_ret2
  refine ⟨rfl, ?_, ?_⟩
  · exact .inr (Lib.BuilderAt.put (T := 70) (e := 5) hB hb2 (bs' := bs ++ Lib.strCells s) (by simpa [Lib.strCells_length] using hown') (by decide))
  · exact (hb1.grown hgrow (by have := hb1.size; omega) (fun k hk => (hown.lt k hk).1)).setCell (p := ⟨b, 1, none⟩) hB _

theorem bytes_app (l m : List UInt8) : (⟨l.toArray⟩ ++ ⟨m.toArray⟩ : ByteArray) = ⟨(l ++ m).toArray⟩ := ByteArray.mk_append_mk l m
theorem bytes_size (l : List UInt8) : (⟨l.toArray⟩ : ByteArray).size = l.length := by simp [ByteArray.size]
theorem trim_len (s p : List UInt8) : (Lib.trimSuffix s p).length ≤ s.length := by
  unfold Lib.trimSuffix; split
  · rw [List.length_take]; omega
  · exact Nat.le_refl _

set_option maxRecDepth 100000 in
set_option maxHeartbeats 2000000 in
theorem written_c (w : World) (ht : Tab w) (sa ra : Option Addr) (sn sc rn rc : Nat) (x : Tst) (h1 : x.shown.length = sn) (h2 : sn ≤ 65536) (h3 : IntsAt w sa x.shown) (h4 : x.read.length = rn) (h5 : rn ≤ 65536) (h6 : IntsAt w ra x.read)
    (hi : ∀ n ∈ x.shown, isInt n) (hj : ∀ n ∈ x.read, isInt n) :
    Calls Tryz.prog 28 #[.agg #[.slice sa sn sc, .slice ra rn rc]] w fun e w' => e = .returned (.string ⟨(wrT x).toArray⟩) ∧ Below w.heap.size w w' := by
  obtain ⟨wt, hwt, hb0, hcells⟩ := tstBox w sa ra sn sc rn rc
  have HN1 := hid (fun (X : World) (hb : Below wt.heap.size wt X) => numbers_c X (ht.below (chain hb0 hb)) sa sn sc x.shown h1 h2 (h3.below (chain hb0 hb)) hi)
  have HN2 := hid (fun (X : World) (hb : Below wt.heap.size wt X) => numbers_c X (ht.below (chain hb0 hb)) ra rn rc x.read h4 h5 (h6.below (chain hb0 hb)) hj)
  have l1 := numT_length x.shown hi
  have l2 := numT_length x.read hj
  obtain ⟨S1, hS1⟩ : ∃ S : ByteArray, S = ⟨(numT x.shown).toArray⟩ := ⟨_, rfl⟩
  obtain ⟨S2, hS2⟩ : ∃ S : ByteArray, S = ⟨(numT x.read).toArray⟩ := ⟨_, rfl⟩
  have z1 : S1.size ≤ 22 * 65536 := by rw [hS1, bytes_size]; omega
  have z2 : S2.size ≤ 22 * 65536 := by rw [hS2, bytes_size]; omega
  have e1 : (S1 ++ ⟨#[58, 32]⟩ : ByteArray) = ⟨(numT x.shown ++ [58, 32]).toArray⟩ := by rw [hS1]; exact bytes_app _ _
  have e2 : (S1 ++ ⟨#[58, 32]⟩ ++ S2 : ByteArray) = ⟨(numT x.shown ++ [58, 32] ++ numT x.read).toArray⟩ := by rw [e1, hS2]; exact bytes_app _ _
  rw [← hS1] at HN1
  rw [← hS2] at HN2
  obtain ⟨S3, hS3⟩ : ∃ S : ByteArray, S = S1 ++ ⟨#[58, 32]⟩ := ⟨_, rfl⟩
  have z3 : S3.size = S1.size + 2 := by rw [hS3, ByteArray.size_append]; rfl
  obtain ⟨S4, hS4⟩ : ∃ S : ByteArray, S = S3 ++ S2 := ⟨_, rfl⟩
  have z4 : S4.size = S3.size + S2.size := by rw [hS4, ByteArray.size_append]
  have e4 : S4.data.toList = numT x.shown ++ [58, 32] ++ numT x.read := by rw [hS4, hS3, e2]
  obtain ⟨S5, hS5⟩ : ∃ S : ByteArray, S = ⟨(Lib.trimSuffix S4.data.toList [32]).toArray⟩ := ⟨_, rfl⟩
  have z5 : S5.size ≤ S4.size := by
    rw [hS5, bytes_size]
    have := trim_len S4.data.toList [32]
    have h9 : S4.data.toList.length = S4.size := (Lib.size_eq S4).symm
    omega
  have e5 : (S5 ++ ⟨#[10]⟩ : ByteArray) = ⟨(wrT x).toArray⟩ := by
    rw [hS5, e4]; exact bytes_app _ _
  have HT := hid (fun (X : World) => Tryz.strings_TrimSuffix S4 ⟨#[32]⟩ X (by omega))
  have HT2 := hid (fun (X : World) => show Calls Tryz.prog 57 #[.string S4, .string ⟨#[32]⟩] X fun e w' => e = .returned (.string S5) ∧ w' = X from by rw [hS5]; exact HT.out X)
  have HS := hid (fun (X : World) (hb : Below wt.heap.size wt X) => show X.cell? ⟨w.heap.size, 0, none⟩ = some (.slice sa sn sc) ∧ X.cell? ⟨w.heap.size, 1, none⟩ = some (.slice ra rn rc) from (hcells X hb).2)
  have HB0 := hid hb0
  have HWT := hid hwt
  have HE5 := hid e5
  have y1 : S1.size ≤ 9223372036854775805 := by omega
  have y2 : S1.size + 2 + S2.size ≤ 9223372036854775807 := by omega
  have y3 : S5.size ≤ 9223372036854775806 := by omega
  have HS3 := hid hS3
  have HS4 := hid hS4
  clear h1 h3 h4 h6 hi hj ht hcells hb0 hwt l1 l2 hS1 hS2 e1 e2 e4 hS5 e5 HT hS3 hS4
  go_enter Tryz.func28, Tryz.ntmps28
  go_wp2
  rw [← HWT.out]
  refine plain_region (fun j' X => wAll j' = true → (X.cell? ⟨w.heap.size, 0, none⟩ = some (.slice sa sn sc) ∧ X.cell? ⟨w.heap.size, 1, none⟩ = some (.slice ra rn rc))) (by kernel_rfl) ?_
  have hbd : Below wt.heap.size wt wt.drew := (Below.refl _ _).drew
  generalize wt.drew = wd at hbd ⊢
  refine AnyT.takeD (i := 0) (v := .pointer (some ⟨w.heap.size, 0, none⟩)) rfl rfl (by kernel_rfl) (by kernel_rfl) (by kernel_rfl) (by first | exact (fun _ _ _ h => h) | exact (fun _ _ _ h => absurd h.1 (by simp))) (by kernel_rfl) (by rfl) (by rintro w' ⟨q4, q5⟩; go_simp) (HS.out _ hbd) ?_; go_frame
  refine AnyT.takeD (i := 1) (v := .slice sa sn sc) rfl rfl (by kernel_rfl) (by kernel_rfl) (by kernel_rfl) (by first | exact (fun _ _ _ h => h) | exact (fun _ _ _ h => absurd h.1 (by simp))) (by kernel_rfl) (by rfl) (by rintro w' ⟨q4, q5⟩; go_simp) (HS.out _ hbd) ?_; go_frame
  refine AnyT.takeD (i := 4) (v := .pointer (some ⟨w.heap.size, 1, none⟩)) rfl rfl (by kernel_rfl) (by kernel_rfl) (by kernel_rfl) (by first | exact (fun _ _ _ h => h) | exact (fun _ _ _ h => absurd h.1 (by simp))) (by kernel_rfl) (by rfl) (by rintro w' ⟨q4, q5⟩; go_simp) (HS.out _ hbd) ?_; go_frame
  refine AnyT.takeD (i := 5) (v := .slice ra rn rc) rfl rfl (by kernel_rfl) (by kernel_rfl) (by kernel_rfl) (by first | exact (fun _ _ _ h => h) | exact (fun _ _ _ h => absurd h.1 (by simp))) (by kernel_rfl) (by rfl) (by rintro w' ⟨q4, q5⟩; go_simp) (HS.out _ hbd) ?_; go_frame
  refine AnyT.next (i := 2) (by kernel_rfl) rfl (wpOp_of_list rfl ?_)
  go_wp2_with (go_at_call 58; refine (HN1.out _ hbd).mono ?_; rintro e w4 ⟨rfl, hbl4⟩; refine Stop.of ?_)
  refine Stop.go ?_
  have hw4 := chain hbd hbl4
  go_wp2
  refine ⟨fun _ => HS.out _ hw4, ?_⟩
  refine AnyT.takeD (i := 3) (v := .string (S1 ++ ⟨#[58, 32]⟩)) rfl rfl (by kernel_rfl) (by kernel_rfl) (by kernel_rfl) (by first | exact (fun _ _ _ h => h) | exact (fun _ _ _ h => absurd h.1 (by simp))) (by kernel_rfl) (by rfl) (by rintro w' ⟨q4, q5⟩; go_simp) (HS.out _ hw4) ?_; go_frame
  rw [← HS3.out]
  refine AnyT.next (i := 6) (by kernel_rfl) rfl (wpOp_of_list rfl ?_)
  go_wp2_with (go_at_call 58; refine (HN2.out _ hw4).mono ?_; rintro e w5 ⟨rfl, hbl5⟩; refine Stop.of ?_)
  refine Stop.go ?_
  have hw5 := chain hw4 hbl5
  go_wp2
  refine ⟨fun _ => HS.out _ hw5, ?_⟩
  refine AnyT.takeD (i := 7) (v := .string (S3 ++ S2)) rfl rfl (by kernel_rfl) (by kernel_rfl) (by kernel_rfl) (by first | exact (fun _ _ _ h => h) | exact (fun _ _ _ h => absurd h.1 (by simp))) (by kernel_rfl) (by rfl) (by rintro w' ⟨q4, q5⟩; go_simp) (HS.out _ hw5) ?_; go_frame
  rw [← HS4.out]
  refine AnyT.next (i := 8) (by kernel_rfl) rfl (wpOp_of_list rfl ?_)
  go_wp2_with (go_at_call 57; refine (HT2.out _).mono ?_; rintro e w6 ⟨rfl, rfl⟩; refine Stop.of ?_)
  refine Stop.go ?_
  go_wp2
  refine ⟨fun _ => HS.out _ hw5, ?_⟩
  refine AnyT.takeD (i := 9) (v := .string (S5 ++ ⟨#[10]⟩)) rfl rfl (by kernel_rfl) (by kernel_rfl) (by kernel_rfl) (by first | exact (fun _ _ _ h => h) | exact (fun _ _ _ h => absurd h.1 (by simp))) (by kernel_rfl) (by rfl) (by rintro w' ⟨q4, q5⟩; go_simp) (HS.out _ hw5) ?_; go_frame
  refine AnyT.takeD (i := 10) (v := .string (S5 ++ ⟨#[10]⟩)) rfl rfl (by kernel_rfl) (by kernel_rfl) (by kernel_rfl) (by first | exact (fun _ _ _ h => h) | exact (fun _ _ _ h => absurd h.1 (by simp))) (by kernel_rfl) (by rfl) (by rintro w' ⟨q4, q5⟩; go_simp) (HS.out _ hw5) ?_; go_frame
  refine AnyT.done (by kernel_rfl) ?_ _
  go_wp2
  go_ret
  exact ⟨by rw [← HE5.out]; rfl, chain HB0.out hw5⟩
end Go.Proofs.YtddcamcdjkiadaaGreatDoor

namespace Go.Proofs.YtddcamcdjkiadaaGreatDoor
open Go.RowKit Go.Shelf
set_option linter.unusedVariables false

theorem isB_below {T e : TypeId} {B b : Nat} {bs : List Value} {w w' : World} (h : Lib.IsBuilder T e B b bs w) (hb : Below w.heap.size w w') : Lib.IsBuilder T e B b bs w' := by
  have key : ∀ p, Lib.BuilderAt T e B b p bs w → Lib.BuilderAt T e B b p bs w' := by
    rintro p ⟨hB, v, hbk, hown, hne⟩
    exact ⟨hB, v, (hb.block b (Array.getElem?_eq_some_iff.1 hbk).1).trans hbk, own_below hown hb, hne⟩
  rcases h with h | h
  · exact .inl (key _ h)
  · exact .inr (key _ h)

def isE (x : Tst) : Bool := x.shown.isEmpty || x.read.isEmpty
theorem isE_len (x : Tst) : isE x = (decide (x.shown.length = 0) || decide (x.read.length = 0)) := by
  unfold isE
  cases x.shown <;> cases x.read <;> simp

theorem format1 (w : World) : PredT Tryz.prog 32 #[] w (fun _ => True) isE := by
  intro t v W hok hbw hv
  obtain ⟨sa, sn, sc, ra, rn, rc, rfl, hsn, hsm, hsi, hrn, hrm, hri⟩ := hv
  obtain ⟨wt, hwt, hb0, hcells⟩ := tstBox W sa ra sn sc rn rc
  have hE := isE_len t
  rw [hsn, hrn] at hE
  obtain ⟨_, f0, f1⟩ := hcells wt (Below.refl _ _)
  have HE := hid hE
  have HB0 := hid hb0
  have HWT := hid hwt
  unfold maxLen at hsm hrm
  clear hE hsn hsi hrn hri hcells hb0 hwt hbw hok
  show Calls _ _ _ W fun e W' => e = Ending.returned (.bool (isE t)) ∧ Below W.heap.size W W'
  have hw := HWT.out
  clear HWT
  by_cases h1 : sn = 0
  · have HR := hid (show isE t = true by rw [HE.out]; simp [h1])
    subst h1
    subst hw
    go_enter Tryz.func32, Tryz.ntmps32
    go_wp2
    go_ret
    exact ⟨by rw [HR.out]; rfl, HB0.out⟩
  · have hne : ((sn : Int) == 0) = false := by simp; omega
    by_cases h2 : rn = 0
    · have HR := hid (show isE t = true by rw [HE.out]; simp [h2])
      subst h2
      subst hw
      go_enter Tryz.func32, Tryz.ntmps32
      go_wp2
      go_ret
      exact ⟨by rw [HR.out]; rfl, HB0.out⟩
    · have hne2 : ((rn : Int) == 0) = false := by simp; omega
      have HR := hid (show isE t = false by rw [HE.out]; simp [h1, h2])
      subst hw
      go_enter Tryz.func32, Tryz.ntmps32
      go_wp2
      go_ret
      exact ⟨by rw [HR.out]; rfl, HB0.out⟩

def FewT (t : List Tst) : Prop := t.length ≤ 16 ∧ ∀ x ∈ t, (x.shown.length ≤ 20 ∧ x.read.length ≤ 20) ∧ (∀ n ∈ x.shown, isInt n) ∧ ∀ n ∈ x.read, isInt n
theorem wrT_len {x : Tst} (h1 : x.shown.length ≤ 20 ∧ x.read.length ≤ 20) (h2 : ∀ n ∈ x.shown, isInt n) (h3 : ∀ n ∈ x.read, isInt n) : (wrT x).length ≤ 883 := by
  have l1 := numT_length x.shown h2
  have l2 := numT_length x.read h3
  unfold wrT
  have := trim_len (numT x.shown ++ [58, 32] ++ numT x.read) [32]
  simp only [List.length_append, List.length_cons, List.length_nil] at this ⊢
  omega
theorem lines_len : ∀ {t : List Tst}, (∀ x ∈ t, (wrT x).length ≤ 883) → (t.flatMap wrT).length ≤ 883 * t.length
  | [], _ => by simp
  | x :: t, h => by
    have := lines_len (t := t) fun y hy => h y (by simp [hy])
    have := h x (by simp)
    rw [List.flatMap_cons, List.length_append, List.length_cons]; omega
theorem lines_wr {t : List Tst} (h : t.any isE = false) : t.flatMap wrT = t.flatMap lineT := by
  refine flat_congr fun x hx => ?_
  have := List.any_eq_false.1 h x hx
  unfold isE at this
  simp only [Bool.or_eq_true, not_or, List.isEmpty_iff] at this
  exact wr_line this.1 this.2

set_option maxRecDepth 100000 in
set_option maxHeartbeats 4000000 in
theorem Format_c (w : World) (ht : Tab w) (a : Option Addr) (n cap : Nat) (t : List Tst) (hn : t.length = n) (hm : n ≤ maxLen) (H : TestsAt w a t) (hf : FewT t) :
    Calls Tryz.prog 10 #[.slice a n cap] w fun e w' => e = .returned (.string ⟨(formatT t).toArray⟩) ∧ Below w.heap.size w w' := by
  have hn16 : n ≤ 16 := by rw [← hn]; exact hf.1
  have eg := enters_of Tryz.func32 (by kernel_rfl) rfl
  have HCo := hid (containsT w a n cap t hn hm H 32 #[] (fun _ => True) isE eg (format1 w) (fun _ _ => trivial))
  have HN := hid hn
  have HH := hid H
  have HFT := hid hf
  by_cases h12 : 12 < n
  · have HE := hid (show formatT t = [] by unfold formatT; rw [if_pos (.inl (by omega))])
    clear hn H hf ht
    go_enter Tryz.func10, Tryz.ntmps10
    go_wp2
    go_ret
    exact ⟨by rw [HE.out]; rfl, Below.refl _ _⟩
  cases han : t.any isE
  rotate_left
  · have HE := hid (show formatT t = [] by unfold formatT; rw [if_pos (.inr han)])
    rw [han] at HCo
    clear hn H hf ht han
    go_enter Tryz.func10, Tryz.ntmps10
    go_wp2_with (go_at_call 31; refine HCo.out.mono ?_; rintro e w1 ⟨rfl, hb1⟩)
    go_ret
    exact ⟨by rw [HE.out]; rfl, hb1⟩
  have HE := hid (show formatT t = t.flatMap wrT by
    unfold formatT
    rw [if_neg, lines_wr han]
    rintro (h | h)
    · omega
    · have : t.any isE = true := h
      rw [han] at this; cases this)
  rw [han] at HCo
  have HLEN := hid (fun k => show ((t.take k).flatMap wrT).length ≤ 883 * 16 from by
    have h1 := lines_len (t := t.take k) fun x hx => by
      obtain ⟨q1, q2, q3⟩ := hf.2 x (List.mem_of_mem_take hx)
      exact wrT_len q1 q2 q3
    have : (t.take k).length ≤ 16 := by rw [List.length_take]; omega
    omega)
  have HTAB := hid ht
  clear hn H hf ht han
  go_enter Tryz.func10, Tryz.ntmps10
  go_wp2_with (go_at_call 31; refine HCo.out.mono ?_; rintro e w1 ⟨rfl, hb1⟩)
  have HB1 := hid hb1
  clear hb1
  go_loopw [15] (fun i wr => ∃ k : Nat, k ≤ n ∧ i = .int .i64 k ∧ Lib.IsBuilder 70 5 w1.heap.size w1.heap.size (Lib.byteCells ((t.take k).flatMap wrT)) wr ∧ Below w1.heap.size w1 wr) (fun i _ => n - (intOf i).toNat)
  case atStart => exact ⟨0, Nat.zero_le _, rfl, Lib.fresh_isBuilder _ _ w1, (Below.refl _ _).alloc (Nat.le_refl _) _⟩
  case round =>
    obtain ⟨k, hk, rfl, hI, hbk⟩ := hrel
    by_cases hlt : k < n
    · have hkl : k < t.length := by rw [HN.out]; exact hlt
      have hbw := chain HB1.out hbk
      obtain ⟨b, off, sa, sn, sc, ra, rn, rc, rfl, hbs, h0, h1, hsn, hsm, hsi, hrn, hrm, hri⟩ := (HH.out.below hbw) k hkl
      obtain ⟨⟨q1, q2⟩, q3, q4⟩ := HFT.out.2 t[k] (List.getElem_mem hkl)
      have htk : (t.take (k + 1)).flatMap wrT = (t.take k).flatMap wrT ++ wrT t[k] := by rw [List.take_succ_eq_append_getElem hkl, List.flatMap_append]; simp
      have hwl := wrT_len ⟨q1, q2⟩ q3 q4
      obtain ⟨x, hx⟩ : ∃ x, x = t[k]'hkl := ⟨_, rfl⟩
      rw [← hx] at hsn hsi hrn hri q1 q2 q3 q4 htk hwl
      obtain ⟨wt, hwt, hb0, hcells⟩ := tstBox wr sa ra sn sc rn rc
      have HWr := hid (written_c wt (HTAB.out.below (chain hbw hb0)) sa ra sn sc rn rc x hsn (by omega) (hsi.below hb0) hrn (by omega) (hri.below hb0) q3 q4)
      obtain ⟨S, hS⟩ : ∃ S : ByteArray, S = ⟨(wrT x).toArray⟩ := ⟨_, rfl⟩
      have hSz : S.size ≤ 883 := by rw [hS, bytes_size]; exact hwl
      rw [← hS] at HWr
      obtain ⟨_, f0, f1⟩ := hcells wt (Below.refl _ _)
      have hIt := isB_below hI hb0
      have HI := hid hIt
      have HWT := hid hwt
      have HB0 := hid (chain hbk hb0)
      have HS := hid hS
      have HTK := hid htk
      have HL := hid (HLEN.out k)
      have M1 := hid hbk.size
      clear hI hIt hwt hb0 hcells hsn hsi hrn hri q1 q2 q3 q4 htk hwl hx hS hbw hbk hkl
      go_wp2_with fail
      rw [← HWT.out]
      go_wp2_with (first
        | (go_at_call 28; refine HWr.out.mono ?_; rintro e w2 ⟨rfl, hb2⟩)
        | (go_at_call 33; refine (writeString_c w1.heap.size w1.heap.size _ S w2 (isB_below HI.out hb2) (by have := HL.out; rw [Lib.byteCells_length]; omega) (Nat.le_trans M1.out (Nat.le_trans (by rw [HWT.out]; simp <;> omega) hb2.size))).mono ?_; rintro e w3 ⟨rfl, hI3, hb3⟩; refine Stop.of ?_))
      refine Stop.go ?_
      have HI3 := hid hI3
      have HB3 := hid ((chain HB0.out hb2).trans hb3)
      clear hI3 hb3 hb2
      go_wp2
      refine ⟨⟨k + 1, by omega, by go_num, ?_, HB3.out⟩, by simp [intOf]; omega⟩
      rw [HTK.out, Lib.byteCells_append]
      have := HI3.out
      rw [HS.out] at this
      exact this
    · obtain rfl : k = n := by omega
      have hall : t.take k = t := List.take_of_length_le (by have := HN.out; omega)
      rw [hall] at hI
      have HI := hid hI
      have M1 := hid hbk.size
      have HBK := hid hbk
      clear hI hall hbk
      go_wp2_with (go_at_call 34; refine (Tryz.Builder_String_any w1.heap.size w1.heap.size (t.flatMap wrT) wr HI.out M1.out).mono ?_; rintro e w2 ⟨rfl, hb2⟩)
      go_ret
      exact ⟨by rw [HE.out]; rfl, chain HB1.out (HBK.out.trans hb2)⟩
end Go.Proofs.YtddcamcdjkiadaaGreatDoor

/- Walks: Bounds and Known of both packages. -/
import Derived.Test.YtdcflpfaaeijoaaBitQ
namespace Go.Proofs.Ytdcflpfaaeijoaa
open Go.RowKit
set_option linter.unusedVariables false

def boundsE (p t : Int) (l : List Cel) (px : Int) : Int := if okCells p t l then (if inB px 0 (p - 1) then (if fitting p.toNat t.toNat l = [] then 8 else 0) else 5) else 1
def boundsLo (p t : Int) (l : List Cel) (px : Int) : Int := if boundsE p t l px = 0 then loT (fitting p.toNat t.toNat l) px.toNat (fitting p.toNat t.toNat l).length else 0
def boundsHi (p t : Int) (l : List Cel) (px : Int) : Int := if boundsE p t l px = 0 then hiT (fitting p.toNat t.toNat l) px.toNat (fitting p.toNat t.toNat l).length else 0

/-- the box of the field, and the cells of the result, in later worlds -/
theorem two_boxes_s (w wf : World) (p t : Int) (hwf : wf = (w.alloc (.cells #[.int .i64 p, .int .i64 t] 23)).alloc (.cells #[.int .i64 0, .int .i64 0] 34)) (W : World) (hb : Below wf.heap.size wf W) :
    W.cell? ⟨w.heap.size, 0, none⟩ = some (.int .i64 p) ∧ W.cell? ⟨w.heap.size, 1, none⟩ = some (.int .i64 t) ∧ W.heap[w.heap.size + 1]? = some (.cells #[.int .i64 0, .int .i64 0] 34 (0, 0)) ∧ w.heap.size + 1 < W.heap.size := by
  have hs := hb.size
  have hz : wf.heap.size = w.heap.size + 2 := by rw [hwf]; simp
  refine ⟨(hb.cell (p := ⟨w.heap.size, 0, none⟩) (show w.heap.size < wf.heap.size by omega)).trans ?_, (hb.cell (p := ⟨w.heap.size, 1, none⟩) (show w.heap.size < wf.heap.size by omega)).trans ?_, (hb.block (w.heap.size + 1) (by omega)).trans ?_, by omega⟩
  · rw [hwf, World.cell?_alloc_lt _ _ _ (show w.heap.size < (w.alloc _).heap.size by simp), World.cell?_alloc_at _ _ _ _ rfl]; rfl
  · rw [hwf, World.cell?_alloc_lt _ _ _ (show w.heap.size < (w.alloc _).heap.size by simp), World.cell?_alloc_at _ _ _ _ rfl]; rfl
  · rw [hwf]
    have := World.alloc_heap_new (w.alloc (.cells #[.int .i64 p, .int .i64 t] 23)) (.cells #[.int .i64 0, .int .i64 0] 34)
    rw [World.size_alloc] at this
    exact this

theorem fitting_len {p t : Nat} {l : List Cel} {x : List Int} (h : x ∈ fitting p t l) : x.length = p :=
  (mem_pics (b := t + 1) (by omega) (List.mem_filter.1 h).1).1

set_option maxRecDepth 100000 in
theorem bounds_c (w : World) (p t : Int) (a : Option Addr) (n cap : Nat) (l : List Cel) (hn : l.length = n) (hm : n ≤ maxLen) (H : CellsAt w a l) (px : Int) :
    Calls Try.prog 24 #[.agg #[.int .i64 p, .int .i64 t], .slice a n cap, .int .i64 px] w fun e w' => e = .returned (.tuple #[.agg #[.int .i64 (boundsLo p t l px), .int .i64 (boundsHi p t l px)], .int .i64 (boundsE p t l px)]) ∧ Below w.heap.size w w' := by
  obtain ⟨wf, hwf⟩ : ∃ wf, wf = (w.alloc (.cells #[.int .i64 p, .int .i64 t] 23)).alloc (.cells #[.int .i64 0, .int .i64 0] 34) := ⟨_, rfl⟩
  have hb0 : Below w.heap.size w wf := by rw [hwf]; exact ((Below.refl _ _).alloc (Nat.le_refl _) _).alloc (by simp) _
  have HF := hid (two_boxes_s w wf p t hwf)
  have HB := hid (fun (W : World) (hb : Below wf.heap.size wf W) => chain hb0 hb)
  have HV := hid (fun (W : World) (hb : Below w.heap.size w W) => validCells_c W p t a n cap l hn hm (H.below hb))
  have fin := hid (fun (W : World) (hb : Below w.heap.size w W) (v0 v1 : Value) => below_set2 (b := w.heap.size + 1) hb (by omega) v0 v1)
  cases hf : okCells p t l
  · have e0 : boundsE p t l px = 1 := by simp [boundsE, hf]
    have e1 : boundsLo p t l px = 0 := by simp [boundsLo, e0]
    have e2 : boundsHi p t l px = 0 := by simp [boundsHi, e0]
    rw [e0, e1, e2]
    rw [hf] at HV
    clear e0 e1 e2 hn H
    go_enter Try.func24, Try.ntmps24
    go_wp2_with fail
    rw [← hwf]
    clear hwf
    refine (HV.out _ hb0).mono ?_
    rintro e w1 ⟨rfl, hb1⟩
    obtain ⟨f0, f1, f2, f3⟩ := HF.out _ hb1
    obtain ⟨c0, c1, cf⟩ := cell2_get f2
    have HC := hid (cell2_set f2 (.int .i64 0) (.int .i64 0))
    clear f2
    go_wp2
    obtain ⟨r0, r1, _⟩ := cell2_get HC.out
    refine bodyPost_ret (v := .tuple #[.agg #[.int .i64 0, .int .i64 0], .int .i64 1]) ?_ rfl ⟨rfl, fin.out _ (HB.out _ hb1) _ _⟩
    simp [results, Try.results24, go_sem, r0, r1]
  · obtain ⟨hfd, hrows⟩ := okCells_bd hf
    obtain ⟨p1, p8, t0, t3⟩ := okField_bd hfd
    obtain ⟨P, rfl⟩ := Int.eq_ofNat_of_zero_le (show 0 ≤ p by omega)
    obtain ⟨T, rfl⟩ := Int.eq_ofNat_of_zero_le t0
    rw [hf] at HV
    cases hi : inB px 0 ((P : Int) - 1)
    · have e0 : boundsE (P : Int) (T : Int) l px = 5 := by simp [boundsE, hf, hi]
      have e1 : boundsLo (P : Int) (T : Int) l px = 0 := by simp [boundsLo, e0]
      have e2 : boundsHi (P : Int) (T : Int) l px = 0 := by simp [boundsHi, e0]
      rw [e0, e1, e2]
      clear e0 e1 e2 hn H hrows
      go_enter Try.func24, Try.ntmps24
      go_wp2_with fail
      rw [← hwf]
      clear hwf
      refine (HV.out _ hb0).mono ?_
      rintro e w1 ⟨rfl, hb1⟩
      obtain ⟨f0, f1, f2, f3⟩ := HF.out _ hb1
      obtain ⟨c0, c1, cf⟩ := cell2_get f2
      have HC := hid (cell2_set f2 (.int .i64 0) (.int .i64 0))
      clear f2
      go_wp2_with (go_at_call 59; refine (within_c _ _ _ _).mono ?_; rintro e w2 ⟨rfl, rfl⟩)
      obtain ⟨r0, r1, _⟩ := cell2_get HC.out
      refine bodyPost_ret (v := .tuple #[.agg #[.int .i64 0, .int .i64 0], .int .i64 5]) ?_ rfl ⟨rfl, fin.out _ (HB.out _ hb1) _ _⟩
      simp [results, Try.results24, go_sem, r0, r1]
    · have hpx : 0 ≤ px ∧ px ≤ (P : Int) - 1 := by simpa [inB] using hi
      obtain ⟨X, rfl⟩ := Int.eq_ofNat_of_zero_le hpx.1
      have e0 : boundsE (P : Int) (T : Int) l (X : Int) = if fitting P T l = [] then 8 else 0 := by simp [boundsE, hf, hi]
      have e1 : boundsLo (P : Int) (T : Int) l (X : Int) = if fitting P T l = [] then 0 else loT (fitting P T l) X (fitting P T l).length := by rw [boundsLo, e0]; split <;> simp
      have e2 : boundsHi (P : Int) (T : Int) l (X : Int) = if fitting P T l = [] then 0 else hiT (fitting P T l) X (fitting P T l).length := by rw [boundsHi, e0]; split <;> simp
      rw [e0, e1, e2]
      have HL := hid (fun (W : World) (hb : Below w.heap.size w W) => left_c W P T (by omega) (by omega) a n cap l hn hm (H.below hb) hrows)
      have hfl : ∀ x ∈ fitting P T l, X < x.length := fun x hx => by rw [fitting_len hx]; omega
      obtain ⟨F, hF⟩ : ∃ F, F = fitting P T l := ⟨_, rfl⟩
      rw [← hF] at HL hfl ⊢
      have HFL := hid hfl
      clear e0 e1 e2 hn H hrows hF hfl
      by_cases hnil : F = []
      · subst hnil
        rw [if_pos rfl, if_pos rfl, if_pos rfl]
        go_enter Try.func24, Try.ntmps24
        go_wp2_with fail
        rw [← hwf]
        clear hwf
        refine (HV.out _ hb0).mono ?_
        rintro e w1 ⟨rfl, hb1⟩
        obtain ⟨f0, f1, f2, f3⟩ := HF.out _ hb1
        clear f2
        go_wp2_with (first | (go_at_call 59; refine (within_c _ _ _ _).mono ?_; rintro e w2 ⟨rfl, rfl⟩) | (go_at_call 65; refine (HL.out _ (HB.out _ hb1)).mono ?_; rintro e w2 ⟨v, base, rfl, hbase, hR, hb2⟩; refine Stop.of ?_))
        refine Stop.go ?_
        obtain ⟨a2, c2, rfl, hl2, _, _⟩ := hR.reads
        clear hR
        obtain ⟨g0, g1, g2, g3⟩ := HF.out _ (chain hb1 hb2)
        obtain ⟨c0, c1, cf⟩ := cell2_get g2
        have HC := hid (cell2_set g2 (.int .i64 0) (.int .i64 0))
        clear g2
        go_wp2
        obtain ⟨r0, r1, _⟩ := cell2_get HC.out
        refine bodyPost_ret (v := .tuple #[.agg #[.int .i64 0, .int .i64 0], .int .i64 8]) ?_ rfl ⟨rfl, fin.out _ (HB.out _ (chain hb1 hb2)) _ _⟩
        simp [results, Try.results24, go_sem, r0, r1]
      · rw [if_neg hnil, if_neg hnil, if_neg hnil]
        have hpos : 0 < F.length := List.length_pos_iff.2 hnil
        have HNIL := hid hnil
        obtain ⟨len, hlen⟩ : ∃ len, len = F.length := ⟨_, rfl⟩
        have hne : ((len : Int) == 0) = false := by simp; omega
        obtain ⟨lo, hlo⟩ : ∃ lo, lo = loT F X F.length := ⟨_, rfl⟩
        obtain ⟨hi', hhi⟩ : ∃ hi, hi = hiT F X F.length := ⟨_, rfl⟩
        have HSP := hid (fun (W : World) (a2 : Option Addr) (c2 : Nat) (hm2 : F.length ≤ maxLen) (H2 : RowsAt W a2 F) => span_c W a2 F.length c2 F X rfl hpos hm2 H2 HFL.out)
        rw [← hlo, ← hhi] at HSP ⊢
        rw [← hlen] at HSP hpos
        have HLE := hid hlen
        clear hlen hlo hhi hnil
        go_enter Try.func24, Try.ntmps24
        go_wp2_with fail
        rw [← hwf]
        clear hwf
        refine (HV.out _ hb0).mono ?_
        rintro e w1 ⟨rfl, hb1⟩
        obtain ⟨f0, f1, f2, f3⟩ := HF.out _ hb1
        clear f2
        go_wp2_with (first | (go_at_call 59; refine (within_c _ _ _ _).mono ?_; rintro e w2 ⟨rfl, rfl⟩) | (go_at_call 65; refine (HL.out _ (HB.out _ hb1)).mono ?_; rintro e w2 ⟨v, base, rfl, hbase, hR, hb2⟩; refine Stop.of ?_))
        refine Stop.go ?_
        obtain ⟨a2, c2, rfl, hl2, hreads, _⟩ := hR.reads
        rw [← HLE.out] at hl2 ⊢
        have HSP2 := hid (HSP.out w2 a2 c2 hl2 hreads)
        clear hR hreads HSP
        unfold maxLen at hl2
        go_wp2_with (go_at_call 66; refine HSP2.out.mono ?_; rintro e w3 ⟨rfl, hb3⟩; refine Stop.of ?_)
        refine Stop.go ?_
        obtain ⟨g0, g1, g2, g3⟩ := HF.out _ (chain (chain hb1 hb2) hb3)
        obtain ⟨c0, c1, cf⟩ := cell2_get g2
        have HC := hid (cell2_set g2 (.int .i64 lo) (.int .i64 hi'))
        clear g2
        go_wp2
        obtain ⟨r0, r1, _⟩ := cell2_get HC.out
        refine bodyPost_ret (v := .tuple #[.agg #[.int .i64 lo, .int .i64 hi'], .int .i64 0]) ?_ rfl ⟨rfl, fin.out _ (HB.out _ (chain (chain hb1 hb2) hb3)) _ _⟩
        simp [results, Try.results24, go_sem, r0, r1]

set_option maxRecDepth 100000 in
theorem refBounds_c (w : World) (p t : Int) (a : Option Addr) (n cap : Nat) (l : List Cel) (hn : l.length = n) (hm : n ≤ maxLen) (H : CellsAt w a l) (px : Int) :
    Calls Try.prog 38 #[.agg #[.int .i64 p, .int .i64 t], .slice a n cap, .int .i64 px] w fun e w' => e = .returned (.tuple #[.agg #[.int .i64 (boundsLo p t l px), .int .i64 (boundsHi p t l px)], .int .i64 (boundsE p t l px)]) ∧ Below w.heap.size w w' := by
  obtain ⟨wf, hwf⟩ : ∃ wf, wf = (w.alloc (.cells #[.int .i64 p, .int .i64 t] 23)).alloc (.cells #[.int .i64 0, .int .i64 0] 34) := ⟨_, rfl⟩
  have hb0 : Below w.heap.size w wf := by rw [hwf]; exact ((Below.refl _ _).alloc (Nat.le_refl _) _).alloc (by simp) _
  have HF := hid (two_boxes_s w wf p t hwf)
  have HB := hid (fun (W : World) (hb : Below wf.heap.size wf W) => chain hb0 hb)
  have HV := hid (fun (W : World) (hb : Below w.heap.size w W) => refValidCells_c W p t a n cap l hn hm (H.below hb))
  have fin := hid (fun (W : World) (hb : Below w.heap.size w W) (v0 v1 : Value) => below_set2 (b := w.heap.size + 1) hb (by omega) v0 v1)
  cases hf : okCells p t l
  · have e0 : boundsE p t l px = 1 := by simp [boundsE, hf]
    have e1 : boundsLo p t l px = 0 := by simp [boundsLo, e0]
    have e2 : boundsHi p t l px = 0 := by simp [boundsHi, e0]
    rw [e0, e1, e2]
    rw [hf] at HV
    clear e0 e1 e2 hn H
    go_enter Try.func38, Try.ntmps38
    go_wp2_with fail
    rw [← hwf]
    clear hwf
    refine (HV.out _ hb0).mono ?_
    rintro e w1 ⟨rfl, hb1⟩
    obtain ⟨f0, f1, f2, f3⟩ := HF.out _ hb1
    obtain ⟨c0, c1, cf⟩ := cell2_get f2
    have HC := hid (cell2_set f2 (.int .i64 0) (.int .i64 0))
    clear f2
    go_wp2
    obtain ⟨r0, r1, _⟩ := cell2_get HC.out
    refine bodyPost_ret (v := .tuple #[.agg #[.int .i64 0, .int .i64 0], .int .i64 1]) ?_ rfl ⟨rfl, fin.out _ (HB.out _ hb1) _ _⟩
    simp [results, Try.results38, go_sem, r0, r1]
  · obtain ⟨hfd, hrows⟩ := okCells_bd hf
    obtain ⟨p1, p8, t0, t3⟩ := okField_bd hfd
    obtain ⟨P, rfl⟩ := Int.eq_ofNat_of_zero_le (show 0 ≤ p by omega)
    obtain ⟨T, rfl⟩ := Int.eq_ofNat_of_zero_le t0
    rw [hf] at HV
    cases hi : inB px 0 ((P : Int) - 1)
    · have e0 : boundsE (P : Int) (T : Int) l px = 5 := by simp [boundsE, hf, hi]
      have e1 : boundsLo (P : Int) (T : Int) l px = 0 := by simp [boundsLo, e0]
      have e2 : boundsHi (P : Int) (T : Int) l px = 0 := by simp [boundsHi, e0]
      rw [e0, e1, e2]
      clear e0 e1 e2 hn H hrows
      go_enter Try.func38, Try.ntmps38
      go_wp2_with fail
      rw [← hwf]
      clear hwf
      refine (HV.out _ hb0).mono ?_
      rintro e w1 ⟨rfl, hb1⟩
      obtain ⟨f0, f1, f2, f3⟩ := HF.out _ hb1
      obtain ⟨c0, c1, cf⟩ := cell2_get f2
      have HC := hid (cell2_set f2 (.int .i64 0) (.int .i64 0))
      clear f2
      go_wp2_with (go_at_call 60; refine (in_c _ _ _ _).mono ?_; rintro e w2 ⟨rfl, rfl⟩)
      obtain ⟨r0, r1, _⟩ := cell2_get HC.out
      refine bodyPost_ret (v := .tuple #[.agg #[.int .i64 0, .int .i64 0], .int .i64 5]) ?_ rfl ⟨rfl, fin.out _ (HB.out _ hb1) _ _⟩
      simp [results, Try.results38, go_sem, r0, r1]
    · have hpx : 0 ≤ px ∧ px ≤ (P : Int) - 1 := by simpa [inB] using hi
      obtain ⟨X, rfl⟩ := Int.eq_ofNat_of_zero_le hpx.1
      have e0 : boundsE (P : Int) (T : Int) l (X : Int) = if fitting P T l = [] then 8 else 0 := by simp [boundsE, hf, hi]
      have e1 : boundsLo (P : Int) (T : Int) l (X : Int) = if fitting P T l = [] then 0 else loT (fitting P T l) X (fitting P T l).length := by rw [boundsLo, e0]; split <;> simp
      have e2 : boundsHi (P : Int) (T : Int) l (X : Int) = if fitting P T l = [] then 0 else hiT (fitting P T l) X (fitting P T l).length := by rw [boundsHi, e0]; split <;> simp
      rw [e0, e1, e2]
      have HL := hid (fun (W : World) (hb : Below w.heap.size w W) => refFitting_c W P T (by omega) (by omega) a n cap l hn hm (H.below hb) hrows)
      have hfl : ∀ x ∈ fitting P T l, X < x.length := fun x hx => by rw [fitting_len hx]; omega
      obtain ⟨F, hF⟩ : ∃ F, F = fitting P T l := ⟨_, rfl⟩
      rw [← hF] at HL hfl ⊢
      have HFL := hid hfl
      clear e0 e1 e2 hn H hrows hF hfl
      by_cases hnil : F = []
      · subst hnil
        rw [if_pos rfl, if_pos rfl, if_pos rfl]
        go_enter Try.func38, Try.ntmps38
        go_wp2_with fail
        rw [← hwf]
        clear hwf
        refine (HV.out _ hb0).mono ?_
        rintro e w1 ⟨rfl, hb1⟩
        obtain ⟨f0, f1, f2, f3⟩ := HF.out _ hb1
        clear f2
        go_wp2_with (first | (go_at_call 60; refine (in_c _ _ _ _).mono ?_; rintro e w2 ⟨rfl, rfl⟩) | (go_at_call 71; refine (HL.out _ (HB.out _ hb1)).mono ?_; rintro e w2 ⟨v, base, rfl, hbase, hR, hb2⟩; refine Stop.of ?_))
        refine Stop.go ?_
        obtain ⟨a2, c2, rfl, hl2, _, _⟩ := hR.reads
        clear hR
        obtain ⟨g0, g1, g2, g3⟩ := HF.out _ (chain hb1 hb2)
        obtain ⟨c0, c1, cf⟩ := cell2_get g2
        have HC := hid (cell2_set g2 (.int .i64 0) (.int .i64 0))
        clear g2
        go_wp2
        obtain ⟨r0, r1, _⟩ := cell2_get HC.out
        refine bodyPost_ret (v := .tuple #[.agg #[.int .i64 0, .int .i64 0], .int .i64 8]) ?_ rfl ⟨rfl, fin.out _ (HB.out _ (chain hb1 hb2)) _ _⟩
        simp [results, Try.results38, go_sem, r0, r1]
      · rw [if_neg hnil, if_neg hnil, if_neg hnil]
        have hpos : 0 < F.length := List.length_pos_iff.2 hnil
        have HNIL := hid hnil
        obtain ⟨len, hlen⟩ : ∃ len, len = F.length := ⟨_, rfl⟩
        have hne : ((len : Int) == 0) = false := by simp; omega
        obtain ⟨lo, hlo⟩ : ∃ lo, lo = loT F X F.length := ⟨_, rfl⟩
        obtain ⟨hi', hhi⟩ : ∃ hi, hi = hiT F X F.length := ⟨_, rfl⟩
        have HSP := hid (fun (W : World) (a2 : Option Addr) (c2 : Nat) (hm2 : F.length ≤ maxLen) (H2 : RowsAt W a2 F) => refSpan_c W a2 F.length c2 F X rfl hpos hm2 H2 HFL.out)
        rw [← hlo, ← hhi] at HSP ⊢
        rw [← hlen] at HSP hpos
        have HLE := hid hlen
        clear hlen hlo hhi hnil
        go_enter Try.func38, Try.ntmps38
        go_wp2_with fail
        rw [← hwf]
        clear hwf
        refine (HV.out _ hb0).mono ?_
        rintro e w1 ⟨rfl, hb1⟩
        obtain ⟨f0, f1, f2, f3⟩ := HF.out _ hb1
        clear f2
        go_wp2_with (first | (go_at_call 60; refine (in_c _ _ _ _).mono ?_; rintro e w2 ⟨rfl, rfl⟩) | (go_at_call 71; refine (HL.out _ (HB.out _ hb1)).mono ?_; rintro e w2 ⟨v, base, rfl, hbase, hR, hb2⟩; refine Stop.of ?_))
        refine Stop.go ?_
        obtain ⟨a2, c2, rfl, hl2, hreads, _⟩ := hR.reads
        rw [← HLE.out] at hl2 ⊢
        have HSP2 := hid (HSP.out w2 a2 c2 hl2 hreads)
        clear hR hreads HSP
        unfold maxLen at hl2
        go_wp2_with (go_at_call 80; refine HSP2.out.mono ?_; rintro e w3 ⟨rfl, hb3⟩; refine Stop.of ?_)
        refine Stop.go ?_
        obtain ⟨g0, g1, g2, g3⟩ := HF.out _ (chain (chain hb1 hb2) hb3)
        obtain ⟨c0, c1, cf⟩ := cell2_get g2
        have HC := hid (cell2_set g2 (.int .i64 lo) (.int .i64 hi'))
        clear g2
        go_wp2
        obtain ⟨r0, r1, _⟩ := cell2_get HC.out
        refine bodyPost_ret (v := .tuple #[.agg #[.int .i64 lo, .int .i64 hi'], .int .i64 0]) ?_ rfl ⟨rfl, fin.out _ (HB.out _ (chain (chain hb1 hb2) hb3)) _ _⟩
        simp [results, Try.results38, go_sem, r0, r1]
end Go.Proofs.Ytdcflpfaaeijoaa

/- Walks: Quantised and Bit of package bit. -/
import Derived.Test.YtdcflpfaaeijoaaBitK
import Derived.Test.YtdcflpfaaeijoaaLift
namespace Go.Proofs.Ytdcflpfaaeijoaa
open Go.RowKit
set_option linter.unusedVariables false

theorem dot_bd {t : Int} (t0 : 0 ≤ t) (t3 : t ≤ 3) {row x : List Int} (hr : ∀ n ∈ row, -1 ≤ n ∧ n ≤ 1) (hx : ∀ n ∈ x, 0 ≤ n ∧ n ≤ t) : ∀ k : Nat, k ≤ row.length → k ≤ x.length → k ≤ 8 → -3 * (k : Int) ≤ dotTo row x k ∧ dotTo row x k ≤ 3 * (k : Int) := by
  intro k
  induction k with
  | zero => intro _ _ _; exact ⟨Int.le_refl _, Int.le_refl _⟩
  | succ k ih =>
    intro h1 h2 h8
    obtain ⟨i1, i2⟩ := ih (by omega) (by omega) (by omega)
    have hrk := hr _ (List.getElem_mem (show k < row.length by omega))
    have hxk := hx _ (List.getElem_mem (show k < x.length by omega))
    have e1 : row[k]?.getD 0 = row[k] := by rw [List.getElem?_eq_getElem (by omega)]; rfl
    have e2 : x[k]?.getD 0 = x[k] := by rw [List.getElem?_eq_getElem (by omega)]; rfl
    have q1 : dotTo row x (k + 1) = wrap64 (dotTo row x k + wrap64 (row[k]?.getD 0 * x[k]?.getD 0)) := rfl
    rw [q1, e1, e2]
    generalize row[k] = r at *
    generalize x[k] = y at *
    have : r = -1 ∨ r = 0 ∨ r = 1 := by omega
    generalize dotTo row x k = D at *
    rcases this with rfl | rfl | rfl <;> simp [wrap64] <;> omega

theorem dot_bd24 {p t : Int} {row x : List Int} (h : rowedE p t row x = 0) : -24 ≤ dotW row x ∧ dotW row x ≤ 24 := by
  obtain ⟨hr, hx⟩ := rowedE_zero h
  obtain ⟨hf, hrow⟩ := rowE_zero hr
  obtain ⟨p1, p8, t0, t3⟩ := okField_bd hf
  obtain ⟨h1, h2⟩ := okRow_len hrow
  obtain ⟨h3, h4⟩ := picE_zero hx
  have := dot_bd t0 t3 h2 h4 row.length (Nat.le_refl _) (by omega) (by omega)
  unfold dotW
  omega

/-- a slice of ints in blocks that were made since B -/
def IntsFrom (B : Nat) (w : World) (a : Option Addr) (l : List Int) : Prop :=
  ∀ j, j < l.length → ∃ b off, a = some ⟨b, off, none⟩ ∧ B ≤ b ∧ b < w.heap.size ∧ w.cell? ⟨b, off + j, none⟩ = some (.int .i64 (l[j]?.getD 0))
theorem IntsFrom.at {B : Nat} {w : World} {a : Option Addr} {l : List Int} (h : IntsFrom B w a l) : IntsAt w a l := fun j hj => by
  obtain ⟨b, off, e, _, hb, hc⟩ := h j hj
  exact ⟨b, off, e, hb, hc⟩
theorem IntsFrom.mono {B B' : Nat} (hB : B' ≤ B) {w : World} {a : Option Addr} {l : List Int} (h : IntsFrom B w a l) : IntsFrom B' w a l := fun j hj => by
  obtain ⟨b, off, e, hB', hb, hc⟩ := h j hj
  exact ⟨b, off, e, Nat.le_trans hB hB', hb, hc⟩
theorem IntsFrom.below {B : Nat} {w w' : World} {a : Option Addr} {l : List Int} (h : IntsFrom B w a l) (hb : Below w.heap.size w w') : IntsFrom B w' a l := fun j hj => by
  obtain ⟨b, off, e, hB, hlt, hc⟩ := h j hj
  exact ⟨b, off, e, hB, Nat.lt_of_lt_of_le hlt hb.size, (hb.cell (p := ⟨b, off + j, none⟩) hlt).trans hc⟩
theorem IntsFrom.set {B : Nat} {w : World} {a : Option Addr} {l : List Int} (h : IntsFrom B w a l) {b0 : Nat} (hb0 : b0 < B) (o : Nat) (v : Value) : IntsFrom B (w.setCell ⟨b0, o, none⟩ v) a l := fun j hj => by
  obtain ⟨b, off, e, hB, hlt, hc⟩ := h j hj
  exact ⟨b, off, e, hB, by simpa using hlt, by rw [World.cell?_setCell_far _ _ _ _ (show b0 ≠ b by omega)]; exact hc⟩
theorem IntsFrom.set3 {B : Nat} {w : World} {a : Option Addr} {l : List Int} (h : IntsFrom B w a l) {b0 : Nat} (hb0 : b0 < B) (v0 v1 v2 : Value) : IntsFrom B (((w.setCell ⟨b0, 0, none⟩ v0).setCell ⟨b0, 1, none⟩ v1).setCell ⟨b0, 2, none⟩ v2) a l :=
  ((h.set hb0 _ _).set hb0 _ _).set hb0 _ _

theorem own_at {W : World} {b0 : Nat} {E : TypeId} {v : Value} {n : Nat} {l : List Int} {xs : List Value} (h : W.ownsRow b0 E 1 v n xs) (hx : xs = l.map (Value.int .i64)) (hn : l.length = n) (hm : n ≤ maxLen) :
    ∃ ra rc, v = .slice ra n rc ∧ IntsFrom b0 W ra l := by
  obtain ⟨ra, rc, rfl⟩ := ownsRow_slice h
  obtain ⟨a, n', cap, e, h1, h2, h3⟩ := (ElemI.own' (base := 0) (S := fun b => b0 ≤ b) h hx hn hm (fun _ h => h))
  cases e
  refine ⟨_, _, rfl, fun j hj => ?_⟩
  obtain ⟨b, off, e, hS, hlt, _, hc⟩ := h3 j hj
  exact ⟨b, off, e, hS, hlt, hc⟩

theorem clone2_c (w : World) (a : Option Addr) (n cap : Nat) (l : List Int) (hn : l.length = n) (hm : n * 8 ≤ 140737488355328) (H : IntsAt w a l) :
    Calls Try.prog 73 #[.slice a n cap] w fun e w' => ∃ ra rc, e = .returned (.slice ra n rc) ∧ IntsFrom w.heap.size w' ra l ∧ Below w.heap.size w w' := by
  refine (clone_c w a n cap l hn hm H).mono ?_
  rintro e w' ⟨v, rfl, ho, hb⟩
  obtain ⟨ra, rc, rfl, hi⟩ := own_at ho rfl hn (by unfold maxLen; omega)
  exact ⟨ra, rc, rfl, hi, hb⟩

theorem down_c (w : World) (n d : Int) (hn : -100 ≤ n) (hn2 : n ≤ 100) (hd : 1 ≤ d) (hd2 : d ≤ 100) :
    Calls Try.prog 72 #[.int .i64 n, .int .i64 d] w fun e w' => e = .returned (.int .i64 (n / d)) ∧ w = w' := by
  have hq : n.tdiv d = n / d ∧ d * (n / d) ≤ n ∧ n < d * (n / d) + d ∨ n.tdiv d = n / d + 1 ∧ n < d * (n / d) + d ∧ d * (n / d) < n := by
    have h1 := Int.mul_ediv_add_emod n d
    have h2 := Int.emod_nonneg n (show d ≠ 0 by omega)
    have h3 := Int.emod_lt_of_pos n (show 0 < d by omega)
    rw [Int.tdiv_eq_ediv]
    by_cases h : 0 ≤ n ∨ d ∣ n
    · rw [if_pos h]; left; omega
    · rw [if_neg h, Int.sign_eq_one_of_pos (by omega)]
      right
      have : n % d ≠ 0 := fun e => h (.inr (Int.dvd_of_emod_eq_zero e))
      omega
  have hb1 : -100 ≤ n / d ∧ n / d ≤ 100 := by
    have h1 : n / d ≤ 100 := by
      apply Int.ediv_le_of_le_mul (by omega); omega
    have h2 : -100 ≤ n / d := by
      apply Int.le_ediv_of_mul_le (by omega); omega
    exact ⟨h2, h1⟩
  have hdn : (d == 0) = false := by simp; omega
  have hdn' : d ≠ 0 := by omega
  obtain ⟨q, hqE⟩ : ∃ q, q = n / d := ⟨_, rfl⟩
  rw [← hqE] at hq hb1 ⊢
  clear hqE
  obtain ⟨m, hm⟩ : ∃ m, m = d * q := ⟨_, rfl⟩
  rw [← hm] at hq
  rcases hq with ⟨e1, h1, h2⟩ | ⟨e1, h1, h2⟩
  · have e2 : q * d = m := by rw [hm, Int.mul_comm]
    have e3 : wrap64 (n.tdiv d) = q := by rw [e1]; unfold wrap64; omega
    have e4 : wrap64 (q * d) = m := by rw [e2]; unfold wrap64; omega
    clear hm
    go_enter Try.func72, Try.ntmps72
    go_wp2
    go_ret
    exact ⟨rfl, rfl⟩
  · have e2 : (q + 1) * d = m + d := by rw [hm, Int.add_mul, Int.mul_comm q d]; omega
    have e3 : wrap64 (n.tdiv d) = q + 1 := by rw [e1]; unfold wrap64; omega
    have e4 : wrap64 ((q + 1) * d) = m + d := by rw [e2]; unfold wrap64; omega
    clear hm
    have h3 : n < m + d := h1
    go_enter Try.func72, Try.ntmps72
    go_wp2
    go_ret
    exact ⟨rfl, rfl⟩

theorem cell3_get {W : World} {b : Nat} {x0 x1 x2 : Value} {E : TypeId} (h : W.heap[b]? = some (.cells #[x0, x1, x2] E (0, 0))) :
    W.cell? ⟨b, 0, none⟩ = some x0 ∧ W.cell? ⟨b, 1, none⟩ = some x1 ∧ W.cell? ⟨b, 2, none⟩ = some x2 ∧ ∀ o, W.frozen? ⟨b, o, none⟩ = false := by
  refine ⟨?_, ?_, ?_, fun o => ?_⟩ <;> simp [World.cell?, World.frozen?, h]
theorem cell3_set {W : World} {b : Nat} {x0 x1 x2 : Value} {E : TypeId} (h : W.heap[b]? = some (.cells #[x0, x1, x2] E (0, 0))) (v0 v1 v2 : Value) :
    (((W.setCell ⟨b, 0, none⟩ v0).setCell ⟨b, 1, none⟩ v1).setCell ⟨b, 2, none⟩ v2).heap[b]? = some (.cells #[v0, v1, v2] E (0, 0)) :=
  (cells_set (cells_set (cells_set h 0 v0) 1 v1) 2 v2).trans rfl
theorem below_set3 {B : Nat} {a w : World} (h : Below B a w) {b : Nat} (hb : B ≤ b) (v0 v1 v2 : Value) : Below B a (((w.setCell ⟨b, 0, none⟩ v0).setCell ⟨b, 1, none⟩ v1).setCell ⟨b, 2, none⟩ v2) :=
  below_set (below_set (below_set h hb _ _) hb _ _) hb _ _

def qLo (s step : Int) : Int := s / step * step
def quantE (p t : Int) (row x : List Int) (step : Int) : Int :=
  if rowedE p t row x = 0 then (if inB step 1 100 && okCell p ⟨row, qLo (dotW row x) step, qLo (dotW row x) step + step - 1⟩ then 0 else 7) else rowedE p t row x
def quantC (p t : Int) (row x : List Int) (step : Int) : Cel := if quantE p t row x step = 0 then ⟨row, qLo (dotW row x) step, qLo (dotW row x) step + step - 1⟩ else ⟨[], 0, 0⟩

theorem qLo_bd {s step : Int} (h1 : -24 ≤ s) (h2 : s ≤ 24) (h3 : 1 ≤ step) (h4 : step ≤ 100) : -124 ≤ qLo s step ∧ qLo s step ≤ s ∧ s < qLo s step + step := by
  have e1 := Int.mul_ediv_add_emod s step
  have e2 := Int.emod_nonneg s (show step ≠ 0 by omega)
  have e3 := Int.emod_lt_of_pos s (show 0 < step by omega)
  unfold qLo
  rw [Int.mul_comm]
  omega

theorem CelV.zero (w : World) : CelV w (.agg #[.slice none 0 0, .int .i64 0, .int .i64 0]) ⟨[], 0, 0⟩ := ⟨none, 0, 0, rfl, rfl, by decide, fun j hj => by simp at hj⟩

set_option maxRecDepth 100000 in
theorem quantised_c (w : World) (p t : Int) (a : Option Addr) (n cap : Nat) (row : List Int) (hn : row.length = n) (hm : n ≤ maxLen) (H : IntsAt w a row) (a2 : Option Addr) (n2 cap2 : Nat) (x : List Int) (hn2 : x.length = n2) (hm2 : n2 ≤ maxLen) (H2 : IntsAt w a2 x) (step : Int) :
    Calls Try.prog 27 #[.agg #[.int .i64 p, .int .i64 t], .slice a n cap, .slice a2 n2 cap2, .int .i64 step] w fun e w' => ∃ v, e = .returned (.tuple #[v, .int .i64 (quantE p t row x step)]) ∧ CelV w' v (quantC p t row x step) ∧ Below w.heap.size w w' := by
  obtain ⟨wf, hwf⟩ : ∃ wf, wf = (w.alloc (.cells #[.int .i64 p, .int .i64 t] 23)).alloc (.cells #[.slice none 0 0, .int .i64 0, .int .i64 0] 41) := ⟨_, rfl⟩
  have hb0 : Below w.heap.size w wf := by rw [hwf]; exact ((Below.refl _ _).alloc (Nat.le_refl _) _).alloc (by simp) _
  have HF := hid (fun (W : World) (hb : Below wf.heap.size wf W) => show W.cell? ⟨w.heap.size, 0, none⟩ = some (.int .i64 p) ∧ W.cell? ⟨w.heap.size, 1, none⟩ = some (.int .i64 t) ∧ W.heap[w.heap.size + 1]? = some (.cells #[.slice none 0 0, .int .i64 0, .int .i64 0] 41 (0, 0)) ∧ w.heap.size + 1 < W.heap.size from by
    have hs := hb.size
    have hz : wf.heap.size = w.heap.size + 2 := by rw [hwf]; simp
    refine ⟨(hb.cell (p := ⟨w.heap.size, 0, none⟩) (show w.heap.size < wf.heap.size by omega)).trans ?_, (hb.cell (p := ⟨w.heap.size, 1, none⟩) (show w.heap.size < wf.heap.size by omega)).trans ?_, (hb.block (w.heap.size + 1) (by omega)).trans ?_, by omega⟩
    · rw [hwf, World.cell?_alloc_lt _ _ _ (show w.heap.size < (w.alloc _).heap.size by simp), World.cell?_alloc_at _ _ _ _ rfl]; rfl
    · rw [hwf, World.cell?_alloc_lt _ _ _ (show w.heap.size < (w.alloc _).heap.size by simp), World.cell?_alloc_at _ _ _ _ rfl]; rfl
    · rw [hwf]
      have := World.alloc_heap_new (w.alloc (.cells #[.int .i64 p, .int .i64 t] 23)) (.cells #[.slice none 0 0, .int .i64 0, .int .i64 0] 41)
      rw [World.size_alloc] at this
      exact this)
  have HB := hid (fun (W : World) (hb : Below wf.heap.size wf W) => chain hb0 hb)
  have HR := hid (fun (W : World) (hb : Below w.heap.size w W) => rowed_c W p t a n cap row hn hm (H.below hb) a2 n2 cap2 x hn2 hm2 (H2.below hb))
  have HBD := hid (fun h => dot_bd24 (p := p) (t := t) (row := row) (x := x) h)
  by_cases hE : rowedE p t row x = 0
  · obtain ⟨d1, d2⟩ := HBD.out hE
    obtain ⟨p1, p8, t0, t3⟩ := okField_bd (rowE_zero (rowedE_zero hE).1).1
    obtain ⟨hp, hrw⟩ := okRow_len (rowE_zero (rowedE_zero hE).1).2
    obtain ⟨hxp, _⟩ := picE_zero (rowedE_zero hE).2
    have hn8 : n ≤ 8 := by omega
    have hnn : n ≤ n2 := by omega
    have HS := hid (fun (W : World) (hb : Below w.heap.size w W) => sum_c W a a2 n cap n2 cap2 row x hn hn2 hnn hm (H.below hb) (H2.below hb))
    have HCL := hid (fun (W : World) (hb : Below w.heap.size w W) => clone2_c W a n cap row hn (by omega) (H.below hb))
    have HVC := hid (fun (W : World) (v : Value) (c : Cel) (hv : CelV W v c) => validCell_c W p v c hv)
    have HN := hid hn
    rw [hE] at HR
    cases hs : inB step 1 100
    · have q1 : quantE p t row x step = 7 := by rw [quantE, if_pos hE, hs]; simp
      have q2 : quantC p t row x step = ⟨[], 0, 0⟩ := by rw [quantC, q1, if_neg (by decide)]
      rw [q1, q2]
      have HE := hid hE
      clear q1 q2 hE hn H hn2 H2 hp hrw hxp
      go_enter Try.func27, Try.ntmps27
      go_wp2_with fail
      rw [← hwf]
      clear hwf
      refine (HR.out _ hb0).mono ?_
      rintro e w1 ⟨rfl, hb1⟩
      obtain ⟨f0, f1, f2, f3⟩ := HF.out _ hb1
      obtain ⟨c0, c1, c2, cf⟩ := cell3_get f2
      have HC := hid (cell3_set f2 (.slice none 0 0) (.int .i64 0) (.int .i64 0))
      clear f2
      go_wp2_with (go_at_call 59; refine (within_c _ _ _ _).mono ?_; rintro e w2 ⟨rfl, rfl⟩)
      obtain ⟨r0, r1, r2, _⟩ := cell3_get HC.out
      refine bodyPost_ret (v := .tuple #[.agg #[.slice none 0 0, .int .i64 0, .int .i64 0], .int .i64 7]) ?_ rfl ⟨_, rfl, CelV.zero _, below_set3 (HB.out _ hb1) (by omega) _ _ _⟩
      simp [results, Try.results27, go_sem, r0, r1, r2]
    · have hs' : 1 ≤ step ∧ step ≤ 100 := by simpa [inB] using hs
      obtain ⟨s1, s2⟩ := hs'
      obtain ⟨b1, b2, b3⟩ := qLo_bd d1 d2 s1 s2
      have HD := hid (fun W : World => down_c W (dotW row x) step (by omega) (by omega) s1 s2)
      have e3 : wrap64 (dotW row x / step * step) = qLo (dotW row x) step := by unfold wrap64; unfold qLo at *; omega
      have e4 : wrap64 (wrap64 (qLo (dotW row x) step + step) - 1) = qLo (dotW row x) step + step - 1 := by unfold wrap64; omega
      have q1 : quantE p t row x step = if okCell p ⟨row, qLo (dotW row x) step, qLo (dotW row x) step + step - 1⟩ = true then 0 else 7 := by rw [quantE, if_pos hE, hs]; simp
      have q2 : quantC p t row x step = if okCell p ⟨row, qLo (dotW row x) step, qLo (dotW row x) step + step - 1⟩ = true then ⟨row, qLo (dotW row x) step, qLo (dotW row x) step + step - 1⟩ else ⟨[], 0, 0⟩ := by
        rw [quantC, q1]; split <;> simp
      rw [q1, q2]
      obtain ⟨lo, hlo⟩ : ∃ lo, lo = qLo (dotW row x) step := ⟨_, rfl⟩
      rw [← hlo] at b1 b2 b3 e3 e4 ⊢
      obtain ⟨D, hD⟩ : ∃ D, D = dotW row x := ⟨_, rfl⟩
      rw [← hD] at HS HD b2 b3 d1 d2 e3
      have HE := hid hE
      clear q1 q2 hE hn H hn2 H2 hp hrw hxp hlo hD
      cases hv : okCell p ⟨row, lo, lo + step - 1⟩
      all_goals
        simp only [if_true, Bool.false_eq_true, if_false]
        have HV := hid hv
        clear hv
        go_enter Try.func27, Try.ntmps27
        go_wp2_with fail
        rw [← hwf]
        clear hwf
        refine (HR.out _ hb0).mono ?_
        rintro e w1 ⟨rfl, hb1⟩
        obtain ⟨f0, f1, f2, f3⟩ := HF.out _ hb1
        clear f2
        go_wp2_with (first | (go_at_call 59; refine (within_c _ _ _ _).mono ?_; rintro e w2 ⟨rfl, rfl⟩) | (go_at_call 54; refine (HS.out _ (HB.out _ hb1)).mono ?_; rintro e w3 ⟨rfl, rfl⟩) | (go_at_call 72; refine (HD.out _).mono ?_; rintro e w3 ⟨rfl, rfl⟩) | (go_at_call 73; refine (HCL.out _ (HB.out _ hb1)).mono ?_; rintro e w4 ⟨ra, rc, rfl, hi4, hb4⟩; have hb4w := chain hb1 hb4; obtain ⟨g0, g1, g2, g3⟩ := HF.out _ hb4w; refine Stop.of ?_))
        refine Stop.go ?_
        have hb5 : Below w4.heap.size w4 (w4.alloc (.cells #[.slice ra n rc, .int .i64 lo, .int .i64 (lo + step - 1)] 41)) := (Below.refl _ _).alloc (Nat.le_refl _) _
        have hcv : CelV w4 (.agg #[.slice ra n rc, .int .i64 lo, .int .i64 (lo + step - 1)]) ⟨row, lo, lo + step - 1⟩ := ⟨ra, n, rc, rfl, HN.out, hm, hi4.at⟩
        have HVC2 := hid (HVC.out _ _ _ (hcv.below hb5))
        rw [HV.out] at HVC2
        have HCV := hid (hi4.below hb5)
        have hz1 : w.heap.size + 1 < w1.heap.size := f3
        obtain ⟨m0, m1, m2, m3⟩ := HF.out _ (hb4w.alloc hb4w.size (.cells #[.slice ra n rc, .int .i64 lo, .int .i64 (lo + step - 1)] 41))
        clear hi4 hcv g2 m2
        go_wp2_with (go_at_call 63; refine HVC2.out.mono ?_; rintro e w6 ⟨rfl, hb6⟩; have hb7 := chain hb5 hb6; have hb6w := chain hb4w hb7; obtain ⟨k0, k1, k2, k3⟩ := HF.out _ hb6w; obtain ⟨c0, c1, c2, cf⟩ := cell3_get k2; have HK := hid k2; clear k2; refine Stop.of ?_)
        refine Stop.go ?_
      · have HC := hid (cell3_set HK.out (.slice none 0 0) (.int .i64 0) (.int .i64 0))
        go_wp2
        obtain ⟨r0, r1, r2, _⟩ := cell3_get HC.out
        refine bodyPost_ret (v := .tuple #[.agg #[.slice none 0 0, .int .i64 0, .int .i64 0], .int .i64 7]) ?_ rfl ⟨_, rfl, CelV.zero _, below_set3 (HB.out _ hb6w) (by omega) _ _ _⟩
        simp [results, Try.results27, go_sem, r0, r1, r2]
      · obtain ⟨x0, x1, x2, xf⟩ := cell3_get ((hb6.block w4.heap.size (by simp)).trans (World.alloc_heap_new w4 _))
        have HC := hid (cell3_set HK.out (.slice ra n rc) (.int .i64 lo) (.int .i64 (lo + step - 1)))
        go_wp2
        obtain ⟨r0, r1, r2, _⟩ := cell3_get HC.out
        refine bodyPost_ret (v := .tuple #[.agg #[.slice ra n rc, .int .i64 lo, .int .i64 (lo + step - 1)], .int .i64 0]) ?_ rfl ⟨_, rfl, ⟨ra, n, rc, rfl, HN.out, hm, ((HCV.out.below hb6).set3 hz1 _ _ _).at⟩, below_set3 (HB.out _ hb6w) (by omega) _ _ _⟩
        simp [results, Try.results27, go_sem, r0, r1, r2]
  · have hE1 : (rowedE p t row x != 0) = true := by simp [hE]
    have q1 : quantE p t row x step = rowedE p t row x := by rw [quantE, if_neg hE]
    have q2 : quantC p t row x step = ⟨[], 0, 0⟩ := by rw [quantC, q1, if_neg hE]
    rw [q1, q2]
    clear q1 q2
    have HE := hid hE
    clear hE hn H hn2 H2
    go_enter Try.func27, Try.ntmps27
    go_wp2_with fail
    rw [← hwf]
    clear hwf
    refine (HR.out _ hb0).mono ?_
    rintro e w1 ⟨rfl, hb1⟩
    obtain ⟨f0, f1, f2, f3⟩ := HF.out _ hb1
    obtain ⟨c0, c1, c2, cf⟩ := cell3_get f2
    have HC := hid (cell3_set f2 (.slice none 0 0) (.int .i64 0) (.int .i64 0))
    clear f2
    go_wp2
    obtain ⟨r0, r1, r2, _⟩ := cell3_get HC.out
    refine bodyPost_ret (v := .tuple #[.agg #[.slice none 0 0, .int .i64 0, .int .i64 0], .int .i64 (rowedE p t row x)]) ?_ rfl ⟨_, rfl, CelV.zero _, below_set3 (HB.out _ hb1) (by omega) _ _ _⟩
    simp [results, Try.results27, go_sem, r0, r1, r2]
end Go.Proofs.Ytdcflpfaaeijoaa

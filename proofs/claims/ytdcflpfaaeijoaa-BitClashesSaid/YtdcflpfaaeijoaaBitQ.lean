/- Walks: the span of a pixel, of package bit and of the reference; same. -/
import Derived.Test.YtdcflpfaaeijoaaBitP
import Derived.BigRegion
namespace Go.Proofs.Ytdcflpfaaeijoaa
open Go.RowKit
set_option linter.unusedVariables false

def pix (ls : List (List Int)) (P k : Nat) : Int := (ls[k]?.getD [])[P]?.getD 0
def loT (ls : List (List Int)) (P : Nat) : Nat → Int
  | 0 => pix ls P 0
  | k + 1 => if pix ls P k < loT ls P k then pix ls P k else loT ls P k
def hiT (ls : List (List Int)) (P : Nat) : Nat → Int
  | 0 => pix ls P 0
  | k + 1 => if hiT ls P k < pix ls P k then pix ls P k else hiT ls P k

theorem cell2_get {W : World} {b : Nat} {x0 x1 : Value} {E : TypeId} (h : W.heap[b]? = some (.cells #[x0, x1] E (0, 0))) :
    W.cell? ⟨b, 0, none⟩ = some x0 ∧ W.cell? ⟨b, 1, none⟩ = some x1 ∧ ∀ o, W.frozen? ⟨b, o, none⟩ = false := by
  refine ⟨?_, ?_, fun o => ?_⟩ <;> simp [World.cell?, World.frozen?, h]
theorem cell2_set {W : World} {b : Nat} {x0 x1 : Value} {E : TypeId} (h : W.heap[b]? = some (.cells #[x0, x1] E (0, 0))) (v0 v1 : Value) :
    ((W.setCell ⟨b, 0, none⟩ v0).setCell ⟨b, 1, none⟩ v1).heap[b]? = some (.cells #[v0, v1] E (0, 0)) :=
  (cells_set (cells_set h 0 v0) 1 v1).trans rfl
theorem below_set2 {B : Nat} {a w : World} (h : Below B a w) {b : Nat} (hb : B ≤ b) (v0 v1 : Value) : Below B a ((w.setCell ⟨b, 0, none⟩ v0).setCell ⟨b, 1, none⟩ v1) :=
  below_set (below_set h hb _ _) hb _ _

/-- a pixel of a row of a slice of rows: the slice that holds it, and its cell -/
theorem rows_pix {W : World} {a : Option Addr} {ls : List (List Int)} (H : RowsAt W a ls) {k P : Nat} (hk : k < ls.length) (hP : ∀ x ∈ ls, P < x.length) :
    ∃ b off rb ro xn xc, a = some ⟨b, off, none⟩ ∧ W.cell? ⟨b, off + k, none⟩ = some (.slice (some ⟨rb, ro, none⟩) xn xc) ∧ P < xn ∧ xn ≤ maxLen ∧ W.cell? ⟨rb, ro + P, none⟩ = some (.int .i64 (pix ls P k)) ∧ b < W.heap.size ∧ rb < W.heap.size := by
  obtain ⟨b, off, ra, n, cap, e, hb, hc, hn, hm, hi⟩ := H k hk
  have hPk := hP _ (List.getElem_mem hk)
  obtain ⟨rb, ro, e2, hrb, hc2⟩ := hi P hPk
  subst e2
  have hx : pix ls P k = ls[k][P]?.getD 0 := by unfold pix; rw [List.getElem?_eq_getElem hk]; rfl
  refine ⟨b, off, rb, ro, n, cap, e, hc, by omega, hm, ?_⟩
  rw [hx]; exact ⟨hc2, hb, hrb⟩

set_option maxHeartbeats 2000000 in
theorem span_c (w : World) (a : Option Addr) (n cap : Nat) (ls : List (List Int)) (P : Nat) (hn : ls.length = n) (h0 : 0 < n) (hm : n ≤ maxLen) (H : RowsAt w a ls) (hP : ∀ x ∈ ls, P < x.length) :
    Calls Try.prog 66 #[.slice a n cap, .int .i64 (P : Int)] w fun e w' => e = .returned (.agg #[.int .i64 (loT ls P n), .int .i64 (hiT ls P n)]) ∧ Below w.heap.size w w' := by
  obtain ⟨wf, hwf⟩ : ∃ wf, wf = w.alloc (.cells #[.int .i64 0, .int .i64 0] 34) := ⟨_, rfl⟩
  have hb0 : Below w.heap.size w wf := by rw [hwf]; exact (Below.refl _ _).alloc (Nat.le_refl _) _
  have hz : wf.heap.size = w.heap.size + 1 := by rw [hwf]; simp
  have hF0 : wf.heap[w.heap.size]? = some (.cells #[.int .i64 0, .int .i64 0] 34 (0, 0)) := by rw [hwf]; exact World.alloc_heap_new _ _
  have HF := hid hF0
  have HZ := hid hz
  have HN := hid hn
  have HH := hid (fun (k : Nat) (hk : k < n) => rows_pix (H.below hb0) (k := k) (P := P) (by rw [hn]; exact hk) hP)
  unfold maxLen at hm
  clear hF0 hz hn H hP
  obtain ⟨b, off, rb, ro, xn, xc, rfl, g0, g1, g2, g3, _, _⟩ := HH.out 0 h0
  rw [Nat.add_zero] at g0
  unfold maxLen at g2
  have g0' : (wf.alloc (.cells #[.int .i64 0, .int .i64 0] 34)).cell? ⟨b, off, none⟩ = some (.slice (some ⟨rb, ro, none⟩) xn xc) := (World.cell?_alloc_some wf _ _ (by rw [g0]; rfl)).trans g0
  have g3' : (wf.alloc (.cells #[.int .i64 0, .int .i64 0] 34)).cell? ⟨rb, ro + P, none⟩ = some (.int .i64 (pix ls P 0)) := (World.cell?_alloc_some wf _ _ (by rw [g3]; rfl)).trans g3
  go_enter Try.func66, Try.ntmps66
  go_wp2_with fail
  rw [← hwf]
  clear hwf
  go_region
  go_wp2
  clear g0 g1 g2 g3 g0' g3'
  go_loopw [23] (fun i wr => ∃ k : Nat, k ≤ n ∧ i = .int .i64 k ∧ Below wf.heap.size wf wr ∧ wr.heap[wf.heap.size]? = some (.cells #[.int .i64 (loT ls P k), .int .i64 (hiT ls P k)] 34 (0, 0))) (fun i _ => n - (intOf i).toNat)
  case atStart =>
    refine ⟨0, Nat.zero_le _, rfl, ?_, ?_⟩
    · exact ((Below.refl _ wf).alloc (Nat.le_refl _) _).drew
    · exact World.alloc_heap_new wf _
  case round =>
    obtain ⟨k, hk, rfl, hb, hs⟩ := hrel
    obtain ⟨s0, s1, sf⟩ := cell2_get hs
    have HS := hid hs
    clear hs
    by_cases hlt : k < n
    · obtain ⟨b', off', rb', ro', xn', xc', e, g0, g1, g2, g3, y1, y2⟩ := HH.out k hlt
      cases e
      have g0 := (hb.cell (p := ⟨b, off + k, none⟩) y1).trans g0
      have g3 := (hb.cell (p := ⟨rb', ro' + P, none⟩) y2).trans g3
      have y3 : wf.heap.size ≠ rb' := by omega
      unfold maxLen at g2
      go_wp2
      go_region
      go_wp2
      refine ⟨⟨k + 1, by omega, by go_num, ?_, ?_⟩, by simp [intOf]; omega⟩
      · repeat (first | exact hb | refine below_set ?_ (Nat.le_refl _) _ _ | refine Below.drew ?_)
      · exact (cells_set (cells_set HS.out 0 _) 1 _).trans rfl
    · obtain rfl : k = n := by omega
      have hq := (hb.block w.heap.size (by have := HZ.out; omega)).trans HF.out
      obtain ⟨c0, c1, cf⟩ := cell2_get hq
      have HC := hid (cell2_set hq (.int .i64 (loT ls P k)) (.int .i64 (hiT ls P k)))
      clear hq
      go_wp2
      obtain ⟨r0, r1, _⟩ := cell2_get HC.out
      refine bodyPost_ret (v := .agg #[.int .i64 (loT ls P k), .int .i64 (hiT ls P k)]) ?_ rfl ⟨rfl, below_set2 (chain hb0 hb) (Nat.le_refl _) _ _⟩
      simp [results, Try.results66, go_sem, r0, r1]

set_option maxHeartbeats 2000000 in
theorem refSpan_c (w : World) (a : Option Addr) (n cap : Nat) (ls : List (List Int)) (P : Nat) (hn : ls.length = n) (h0 : 0 < n) (hm : n ≤ maxLen) (H : RowsAt w a ls) (hP : ∀ x ∈ ls, P < x.length) :
    Calls Try.prog 80 #[.slice a n cap, .int .i64 (P : Int)] w fun e w' => e = .returned (.agg #[.int .i64 (loT ls P n), .int .i64 (hiT ls P n)]) ∧ Below w.heap.size w w' := by
  obtain ⟨wf, hwf⟩ : ∃ wf, wf = w.alloc (.cells #[.int .i64 0, .int .i64 0] 34) := ⟨_, rfl⟩
  have hb0 : Below w.heap.size w wf := by rw [hwf]; exact (Below.refl _ _).alloc (Nat.le_refl _) _
  have hz : wf.heap.size = w.heap.size + 1 := by rw [hwf]; simp
  have hF0 : wf.heap[w.heap.size]? = some (.cells #[.int .i64 0, .int .i64 0] 34 (0, 0)) := by rw [hwf]; exact World.alloc_heap_new _ _
  have HF := hid hF0
  have HZ := hid hz
  have HN := hid hn
  have HH := hid (fun (k : Nat) (hk : k < n) => rows_pix (H.below hb0) (k := k) (P := P) (by rw [hn]; exact hk) hP)
  unfold maxLen at hm
  clear hF0 hz hn H hP
  obtain ⟨b, off, rb, ro, xn, xc, rfl, g0, g1, g2, g3, _, _⟩ := HH.out 0 h0
  rw [Nat.add_zero] at g0
  unfold maxLen at g2
  have g0' : (wf.alloc (.cells #[.int .i64 0, .int .i64 0] 34)).cell? ⟨b, off, none⟩ = some (.slice (some ⟨rb, ro, none⟩) xn xc) := (World.cell?_alloc_some wf _ _ (by rw [g0]; rfl)).trans g0
  have g3' : (wf.alloc (.cells #[.int .i64 0, .int .i64 0] 34)).cell? ⟨rb, ro + P, none⟩ = some (.int .i64 (pix ls P 0)) := (World.cell?_alloc_some wf _ _ (by rw [g3]; rfl)).trans g3
  go_enter Try.func80, Try.ntmps80
  go_wp2_with fail
  rw [← hwf]
  clear hwf
  go_region
  go_wp2
  clear g0 g1 g2 g3 g0' g3'
  go_loopw [23] (fun i wr => ∃ k : Nat, k ≤ n ∧ i = .int .i64 k ∧ Below wf.heap.size wf wr ∧ wr.heap[wf.heap.size]? = some (.cells #[.int .i64 (loT ls P k), .int .i64 (hiT ls P k)] 34 (0, 0))) (fun i _ => n - (intOf i).toNat)
  case atStart =>
    refine ⟨0, Nat.zero_le _, rfl, ?_, ?_⟩
    · exact ((Below.refl _ wf).alloc (Nat.le_refl _) _).drew
    · exact World.alloc_heap_new wf _
  case round =>
    obtain ⟨k, hk, rfl, hb, hs⟩ := hrel
    obtain ⟨s0, s1, sf⟩ := cell2_get hs
    have HS := hid hs
    clear hs
    by_cases hlt : k < n
    · obtain ⟨b', off', rb', ro', xn', xc', e, g0, g1, g2, g3, y1, y2⟩ := HH.out k hlt
      cases e
      have g0 := (hb.cell (p := ⟨b, off + k, none⟩) y1).trans g0
      have g3 := (hb.cell (p := ⟨rb', ro' + P, none⟩) y2).trans g3
      have y3 : wf.heap.size ≠ rb' := by omega
      unfold maxLen at g2
      go_wp2
      go_region
      go_wp2
      refine ⟨⟨k + 1, by omega, by go_num, ?_, ?_⟩, by simp [intOf]; omega⟩
      · repeat (first | exact hb | refine below_set ?_ (Nat.le_refl _) _ _ | refine Below.drew ?_)
      · exact (cells_set (cells_set HS.out 0 _) 1 _).trans rfl
    · obtain rfl : k = n := by omega
      have hq := (hb.block w.heap.size (by have := HZ.out; omega)).trans HF.out
      obtain ⟨c0, c1, cf⟩ := cell2_get hq
      have HC := hid (cell2_set hq (.int .i64 (loT ls P k)) (.int .i64 (hiT ls P k)))
      clear hq
      go_wp2
      obtain ⟨r0, r1, _⟩ := cell2_get HC.out
      refine bodyPost_ret (v := .agg #[.int .i64 (loT ls P k), .int .i64 (hiT ls P k)]) ?_ rfl ⟨rfl, below_set2 (chain hb0 hb) (Nat.le_refl _) _ _⟩
      simp [results, Try.results80, go_sem, r0, r1]

theorem same_c (w : World) (a a2 : Option Addr) (n cap n2 cap2 : Nat) (l : List Int) (hn : l.length = n) (hn2 : l.length = n2) (hm : n ≤ maxLen) (H : IntsAt w a l) (H2 : IntsAt w a2 l) :
    Calls Try.prog 37 #[.slice a n cap, .slice a2 n2 cap2] w fun e w' => e = .returned (.bool true) ∧ Below w.heap.size w w' := by
  obtain rfl : n = n2 := by omega
  have HN := hid hn
  have HI := hid H
  have HI2 := hid H2
  unfold maxLen at hm
  clear hn hn2 H H2
  go_enter Try.func37, Try.ntmps37
  go_wp2
  go_loopw [13] (fun i wr => ∃ k : Nat, k ≤ n ∧ i = .int .i64 k ∧ Below w.heap.size w wr) (fun i _ => n - (intOf i).toNat)
  case atStart => exact ⟨0, Nat.zero_le _, rfl, Below.refl _ _⟩
  case round =>
    obtain ⟨k, hk, rfl, hb⟩ := hrel
    by_cases hlt : k < n
    · have HKL := hid (show k < l.length by rw [HN.out]; exact hlt)
      obtain ⟨b, off, rfl, hbs, hc⟩ := (HI.out.below hb) k HKL.out
      obtain ⟨b', off', rfl, hbs', hc'⟩ := (HI2.out.below hb) k HKL.out
      go_wp2
      go_quiet (fail)
      go_wp2
      exact ⟨⟨k + 1, by omega, by go_num, below_drewN hb _⟩, meas hlt⟩
    · go_wp2
      go_ret
      exact ⟨rfl, hb⟩
end Go.Proofs.Ytdcflpfaaeijoaa

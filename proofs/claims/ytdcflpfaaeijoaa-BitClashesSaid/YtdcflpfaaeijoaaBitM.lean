/- Walks: Bit, of package bit and of the reference; the reference's Quantised. -/
import Derived.Test.YtdcflpfaaeijoaaBitL
namespace Go.Proofs.Ytdcflpfaaeijoaa
open Go.RowKit
set_option linter.unusedVariables false

/-- a cell whose row lies in blocks made since B -/
def CelF (B : Nat) (w : World) (v : Value) (c : Cel) : Prop :=
  ∃ ra n cap, v = .agg #[.slice ra n cap, .int .i64 c.lo, .int .i64 c.hi] ∧ c.row.length = n ∧ n ≤ maxLen ∧ IntsFrom B w ra c.row
theorem CelF.v {B : Nat} {w : World} {v : Value} {c : Cel} (h : CelF B w v c) : CelV w v c := by
  obtain ⟨ra, n, cap, e, h1, h2, h3⟩ := h
  exact ⟨ra, n, cap, e, h1, h2, h3.at⟩
theorem CelF.below {B : Nat} {w w' : World} {v : Value} {c : Cel} (h : CelF B w v c) (hb : Below w.heap.size w w') : CelF B w' v c := by
  obtain ⟨ra, n, cap, e, h1, h2, h3⟩ := h
  exact ⟨ra, n, cap, e, h1, h2, h3.below hb⟩
theorem CelF.zero (B : Nat) (w : World) : CelF B w (.agg #[.slice none 0 0, .int .i64 0, .int .i64 0]) ⟨[], 0, 0⟩ := ⟨none, 0, 0, rfl, rfl, by decide, fun j hj => by simp at hj⟩

def bitC (row x : List Int) (thr : Int) : Cel := if thr ≤ dotW row x then ⟨row, thr, 100⟩ else ⟨row, -100, thr - 1⟩
def bitE (p t : Int) (row x : List Int) (thr : Int) : Int := if rowedE p t row x = 0 then (if inB thr (-99) 100 then 0 else 7) else rowedE p t row x
def bitCC (p t : Int) (row x : List Int) (thr : Int) : Cel := if bitE p t row x thr = 0 then bitC row x thr else ⟨[], 0, 0⟩

theorem bit_c (w : World) (a a2 : Option Addr) (n cap n2 cap2 : Nat) (row x : List Int) (hn : row.length = n) (hn2 : x.length = n2) (hle : n ≤ n2) (hm : n * 8 ≤ 140737488355328) (H : IntsAt w a row) (H2 : IntsAt w a2 x) (thr : Int) (t1 : -99 ≤ thr) (t2 : thr ≤ 100) :
    Calls Try.prog 74 #[.slice a n cap, .slice a2 n2 cap2, .int .i64 thr] w fun e w' => ∃ v, e = .returned v ∧ CelF w.heap.size w' v (bitC row x thr) ∧ Below w.heap.size w w' := by
  obtain ⟨wf, hwf⟩ : ∃ wf, wf = w.alloc (.cells #[.slice none 0 0, .int .i64 0, .int .i64 0] 41) := ⟨_, rfl⟩
  have hb0 : Below w.heap.size w wf := by rw [hwf]; exact (Below.refl _ _).alloc (Nat.le_refl _) _
  have hz : wf.heap.size = w.heap.size + 1 := by rw [hwf]; simp
  have hF0 : wf.heap[w.heap.size]? = some (.cells #[.slice none 0 0, .int .i64 0, .int .i64 0] 41 (0, 0)) := by rw [hwf]; exact World.alloc_heap_new _ _
  have HF := hid hF0
  have hm2 : n ≤ maxLen := by unfold maxLen; omega
  have HS := hid (sum_c wf a a2 n cap n2 cap2 row x hn hn2 hle hm2 (H.below hb0) (H2.below hb0))
  have HCL := hid (clone2_c wf a n cap row hn hm (H.below hb0))
  have HN := hid hn
  clear hF0 hn hn2 H H2
  obtain ⟨C, hC⟩ : ∃ C, C = bitC row x thr := ⟨_, rfl⟩
  have hC' : thr ≤ dotW row x ∧ C = ⟨row, thr, 100⟩ ∨ ¬ thr ≤ dotW row x ∧ C = ⟨row, -100, thr - 1⟩ := by
    rw [hC, bitC]; by_cases h : thr ≤ dotW row x
    · left; rw [if_pos h]; exact ⟨h, rfl⟩
    · right; rw [if_neg h]; exact ⟨h, rfl⟩
  rw [← hC]
  clear hC
  obtain ⟨D, hD⟩ : ∃ D, D = dotW row x := ⟨_, rfl⟩
  rw [← hD] at HS hC'
  clear hD
  rcases hC' with ⟨hd, rfl⟩ | ⟨hd, rfl⟩
  all_goals
    go_enter Try.func74, Try.ntmps74
    go_wp2_with fail
    rw [← hwf]
    clear hwf
    refine HS.out.mono ?_
    rintro e w3 ⟨rfl, rfl⟩
    go_wp2_with (go_at_call 73; refine HCL.out.mono ?_; rintro e w4 ⟨ra, rc, rfl, hi4, hb4⟩; refine Stop.of ?_)
    refine Stop.go ?_
    have hh := (hb4.block w.heap.size (by omega)).trans HF.out
    obtain ⟨c0, c1, c2, cf⟩ := cell3_get hh
    have HI := hid hi4
    clear hi4
  · have HC := hid (cell3_set hh (.slice ra n rc) (.int .i64 thr) (.int .i64 100))
    clear hh
    go_wp2
    obtain ⟨r0, r1, r2, _⟩ := cell3_get HC.out
    refine bodyPost_ret (v := .agg #[.slice ra n rc, .int .i64 thr, .int .i64 100]) ?_ rfl ⟨_, rfl, ⟨ra, n, rc, rfl, HN.out, hm2, (HI.out.set3 (by omega) _ _ _).mono (by omega)⟩, below_set3 (chain hb0 hb4) (Nat.le_refl _) _ _ _⟩
    simp [results, Try.results74, go_sem, r0, r1, r2]
  · have HC := hid (cell3_set hh (.slice ra n rc) (.int .i64 (-100)) (.int .i64 (thr - 1)))
    clear hh
    go_wp2
    obtain ⟨r0, r1, r2, _⟩ := cell3_get HC.out
    refine bodyPost_ret (v := .agg #[.slice ra n rc, .int .i64 (-100), .int .i64 (thr - 1)]) ?_ rfl ⟨_, rfl, ⟨ra, n, rc, rfl, HN.out, hm2, (HI.out.set3 (by omega) _ _ _).mono (by omega)⟩, below_set3 (chain hb0 hb4) (Nat.le_refl _) _ _ _⟩
    simp [results, Try.results74, go_sem, r0, r1, r2]

theorem refBit_c (w : World) (a a2 : Option Addr) (n cap n2 cap2 : Nat) (row x : List Int) (hn : row.length = n) (hn2 : x.length = n2) (hle : n ≤ n2) (hm : n * 8 ≤ 140737488355328) (H : IntsAt w a row) (H2 : IntsAt w a2 x) (thr : Int) (t1 : -99 ≤ thr) (t2 : thr ≤ 100) :
    Calls Try.prog 75 #[.slice a n cap, .slice a2 n2 cap2, .int .i64 thr] w fun e w' => ∃ v, e = .returned v ∧ CelF w.heap.size w' v (bitC row x thr) ∧ Below w.heap.size w w' := by
  obtain ⟨wf, hwf⟩ : ∃ wf, wf = w.alloc (.cells #[.slice none 0 0, .int .i64 0, .int .i64 0] 41) := ⟨_, rfl⟩
  have hb0 : Below w.heap.size w wf := by rw [hwf]; exact (Below.refl _ _).alloc (Nat.le_refl _) _
  have hz : wf.heap.size = w.heap.size + 1 := by rw [hwf]; simp
  have hF0 : wf.heap[w.heap.size]? = some (.cells #[.slice none 0 0, .int .i64 0, .int .i64 0] 41 (0, 0)) := by rw [hwf]; exact World.alloc_heap_new _ _
  have HF := hid hF0
  have hm2 : n ≤ maxLen := by unfold maxLen; omega
  have HS := hid (refSum_c wf a a2 n cap n2 cap2 row x hn hn2 hle hm2 (H.below hb0) (H2.below hb0))
  have HN := hid hn
  have HZ := hid hz
  have hbe : Below wf.heap.size wf (wf.alloc (.cells #[] 3)) := (Below.refl _ _).alloc (Nat.le_refl _) _
  have L1 := hid (show (row.map (Value.int .i64)).length = n * 1 by rw [List.length_map, HN.out]; omega)
  have L2 := hid (show a = none → n = 0 from fun h => by rw [← HN.out]; exact ints_none H h)
  have L3 := hid (ints_news ((H.below hb0).below hbe))
  have M1 := hid (show 0 + n ≤ maxLen by rw [Nat.zero_add]; exact hm2)
  have M2 := hid (show (0 + n) * 8 ≤ 140737488355328 by omega)
  have M3 := hid (show wf.heap.size ≤ (wf.alloc (.cells #[] 3)).heap.size by simp)
  have M4 := hid (World.ownsRow_made (base := wf.heap.size) (e := 3) (size := 1) wf #[] 0 (Nat.le_refl _) (Nat.zero_le _) rfl)
  clear hF0 hn hn2 H H2 hz
  obtain ⟨C, hC⟩ : ∃ C, C = bitC row x thr := ⟨_, rfl⟩
  have hC' : thr ≤ dotW row x ∧ C = ⟨row, thr, 100⟩ ∨ ¬ thr ≤ dotW row x ∧ C = ⟨row, -100, thr - 1⟩ := by
    rw [hC, bitC]; by_cases h : thr ≤ dotW row x
    · left; rw [if_pos h]; exact ⟨h, rfl⟩
    · right; rw [if_neg h]; exact ⟨h, rfl⟩
  rw [← hC]
  clear hC
  obtain ⟨D, hD⟩ : ∃ D, D = dotW row x := ⟨_, rfl⟩
  rw [← hD] at HS hC'
  clear hD
  rcases hC' with ⟨hd, rfl⟩ | ⟨hd, rfl⟩
  · go_enter Try.func75, Try.ntmps75
    go_wp2_with fail
    rw [← hwf]
    clear hwf
    refine HS.out.mono ?_
    rintro e w3 ⟨rfl, rfl⟩
    go_wp2_with (at_builtin; refine wpList_app _ rfl (.tmp 12) (.tmp 13) 25 rfl wf.heap.size 3 (.int .i64 0) 1 8 Try.underlying25 info_int rfl Nat.one_pos (.slice (some ⟨wf.heap.size, 0, none⟩) 0 0) 0 [] rfl M4.out a n cap (row.map (Value.int .i64)) rfl L1.out L2.out L3.out (ints_oneCell _ _) M1.out M2.out M3.out ?_; refine Stop.of ?_)
    refine Stop.go ?_
    intro a1 cc w4 own1 g1
    have hz := HZ.out
    have hb4 := hbe.grown g1 M3.out (fun k hk => (M4.out.lt k hk).1)
    obtain ⟨ra, rc, e1, hi4⟩ := own_at own1 rfl HN.out hm2
    simp only [Value.slice.injEq, true_and] at e1
    obtain ⟨rfl, rfl⟩ := e1
    have hh := (hb4.block w.heap.size (by omega)).trans HF.out
    obtain ⟨c0, c1, c2, cf⟩ := cell3_get hh
    have HI := hid hi4
    clear hi4 own1
    have HC := hid (cell3_set hh (.slice a1 n cc) (.int .i64 thr) (.int .i64 100))
    clear hh
    go_wp2
    obtain ⟨r0, r1, r2, _⟩ := cell3_get HC.out
    refine bodyPost_ret (v := .agg #[.slice a1 n cc, .int .i64 thr, .int .i64 100]) ?_ rfl ⟨_, rfl, ⟨a1, n, cc, rfl, HN.out, hm2, (HI.out.set3 (by omega) _ _ _).mono (by omega)⟩, below_set3 (chain hb0 hb4) (Nat.le_refl _) _ _ _⟩
    simp [results, Try.results75, go_sem, r0, r1, r2]
  · go_enter Try.func75, Try.ntmps75
    go_wp2_with fail
    rw [← hwf]
    clear hwf
    refine HS.out.mono ?_
    rintro e w3 ⟨rfl, rfl⟩
    go_wp2_with (at_builtin; refine wpList_app _ rfl (.tmp 17) (.tmp 18) 25 rfl wf.heap.size 3 (.int .i64 0) 1 8 Try.underlying25 info_int rfl Nat.one_pos (.slice (some ⟨wf.heap.size, 0, none⟩) 0 0) 0 [] rfl M4.out a n cap (row.map (Value.int .i64)) rfl L1.out L2.out L3.out (ints_oneCell _ _) M1.out M2.out M3.out ?_; refine Stop.of ?_)
    refine Stop.go ?_
    intro a1 cc w4 own1 g1
    have hz := HZ.out
    have hb4 := hbe.grown g1 M3.out (fun k hk => (M4.out.lt k hk).1)
    obtain ⟨ra, rc, e1, hi4⟩ := own_at own1 rfl HN.out hm2
    simp only [Value.slice.injEq, true_and] at e1
    obtain ⟨rfl, rfl⟩ := e1
    have hh := (hb4.block w.heap.size (by omega)).trans HF.out
    obtain ⟨c0, c1, c2, cf⟩ := cell3_get hh
    have HI := hid hi4
    clear hi4 own1
    have HC := hid (cell3_set hh (.slice a1 n cc) (.int .i64 (-100)) (.int .i64 (thr - 1)))
    clear hh
    go_wp2
    obtain ⟨r0, r1, r2, _⟩ := cell3_get HC.out
    refine bodyPost_ret (v := .agg #[.slice a1 n cc, .int .i64 (-100), .int .i64 (thr - 1)]) ?_ rfl ⟨_, rfl, ⟨a1, n, cc, rfl, HN.out, hm2, (HI.out.set3 (by omega) _ _ _).mono (by omega)⟩, below_set3 (chain hb0 hb4) (Nat.le_refl _) _ _ _⟩
    simp [results, Try.results75, go_sem, r0, r1, r2]

/-- the box of the field, and the cell of the result, in later worlds -/
theorem two_boxes (w wf : World) (p t : Int) (hwf : wf = (w.alloc (.cells #[.int .i64 p, .int .i64 t] 23)).alloc (.cells #[.slice none 0 0, .int .i64 0, .int .i64 0] 41)) (W : World) (hb : Below wf.heap.size wf W) :
    W.cell? ⟨w.heap.size, 0, none⟩ = some (.int .i64 p) ∧ W.cell? ⟨w.heap.size, 1, none⟩ = some (.int .i64 t) ∧ W.heap[w.heap.size + 1]? = some (.cells #[.slice none 0 0, .int .i64 0, .int .i64 0] 41 (0, 0)) ∧ w.heap.size + 1 < W.heap.size := by
  have hs := hb.size
  have hz : wf.heap.size = w.heap.size + 2 := by rw [hwf]; simp
  refine ⟨(hb.cell (p := ⟨w.heap.size, 0, none⟩) (show w.heap.size < wf.heap.size by omega)).trans ?_, (hb.cell (p := ⟨w.heap.size, 1, none⟩) (show w.heap.size < wf.heap.size by omega)).trans ?_, (hb.block (w.heap.size + 1) (by omega)).trans ?_, by omega⟩
  · rw [hwf, World.cell?_alloc_lt _ _ _ (show w.heap.size < (w.alloc _).heap.size by simp), World.cell?_alloc_at _ _ _ _ rfl]; rfl
  · rw [hwf, World.cell?_alloc_lt _ _ _ (show w.heap.size < (w.alloc _).heap.size by simp), World.cell?_alloc_at _ _ _ _ rfl]; rfl
  · rw [hwf]
    have := World.alloc_heap_new (w.alloc (.cells #[.int .i64 p, .int .i64 t] 23)) (.cells #[.slice none 0 0, .int .i64 0, .int .i64 0] 41)
    rw [World.size_alloc] at this
    exact this

set_option maxRecDepth 100000 in
theorem bitP_c (w : World) (p t : Int) (a : Option Addr) (n cap : Nat) (row : List Int) (hn : row.length = n) (hm : n ≤ maxLen) (H : IntsAt w a row) (a2 : Option Addr) (n2 cap2 : Nat) (x : List Int) (hn2 : x.length = n2) (hm2 : n2 ≤ maxLen) (H2 : IntsAt w a2 x) (thr : Int) :
    Calls Try.prog 29 #[.agg #[.int .i64 p, .int .i64 t], .slice a n cap, .slice a2 n2 cap2, .int .i64 thr] w fun e w' => ∃ v, e = .returned (.tuple #[v, .int .i64 (bitE p t row x thr)]) ∧ CelV w' v (bitCC p t row x thr) ∧ Below w.heap.size w w' := by
  obtain ⟨wf, hwf⟩ : ∃ wf, wf = (w.alloc (.cells #[.int .i64 p, .int .i64 t] 23)).alloc (.cells #[.slice none 0 0, .int .i64 0, .int .i64 0] 41) := ⟨_, rfl⟩
  have hb0 : Below w.heap.size w wf := by rw [hwf]; exact ((Below.refl _ _).alloc (Nat.le_refl _) _).alloc (by simp) _
  have HF := hid (two_boxes w wf p t hwf)
  have HB := hid (fun (W : World) (hb : Below wf.heap.size wf W) => chain hb0 hb)
  have HR := hid (fun (W : World) (hb : Below w.heap.size w W) => rowed_c W p t a n cap row hn hm (H.below hb) a2 n2 cap2 x hn2 hm2 (H2.below hb))
  by_cases hE : rowedE p t row x = 0
  · obtain ⟨p1, p8, t0, t3⟩ := okField_bd (rowE_zero (rowedE_zero hE).1).1
    obtain ⟨hp, hrw⟩ := okRow_len (rowE_zero (rowedE_zero hE).1).2
    obtain ⟨hxp, _⟩ := picE_zero (rowedE_zero hE).2
    have hn8 : n ≤ 8 := by omega
    have hnn : n ≤ n2 := by omega
    rw [hE] at HR
    cases hs : inB thr (-99) 100
    · have q1 : bitE p t row x thr = 7 := by rw [bitE, if_pos hE, hs]; simp
      have q2 : bitCC p t row x thr = ⟨[], 0, 0⟩ := by rw [bitCC, q1, if_neg (by decide)]
      rw [q1, q2]
      have HE := hid hE
      clear q1 q2 hE hn H hn2 H2 hp hrw hxp
      go_enter Try.func29, Try.ntmps29
      go_wp2_with fail
      rw [← hwf]
      clear hwf
      refine (HR.out _ hb0).mono ?_
      rintro e w1 ⟨rfl, hb1⟩
      obtain ⟨f0, f1, f2, f3⟩ := HF.out _ hb1
      obtain ⟨c0, c1, c2, cf⟩ := cell3_get f2
      have HC := hid (cell3_set f2 (.slice none 0 0) (.int .i64 0) (.int .i64 0))
      clear f2
      go_wp2_with (go_at_call 59; refine (within_c _ _ _ _).mono ?_; rintro e w2 ⟨rfl, rfl⟩)
      obtain ⟨r0, r1, r2, _⟩ := cell3_get HC.out
      refine bodyPost_ret (v := .tuple #[.agg #[.slice none 0 0, .int .i64 0, .int .i64 0], .int .i64 7]) ?_ rfl ⟨_, rfl, CelV.zero _, below_set3 (HB.out _ hb1) (by omega) _ _ _⟩
      simp [results, Try.results29, go_sem, r0, r1, r2]
    · have hs' : -99 ≤ thr ∧ thr ≤ 100 := by simpa [inB] using hs
      obtain ⟨s1, s2⟩ := hs'
      have q1 : bitE p t row x thr = 0 := by rw [bitE, if_pos hE, hs]; simp
      have q2 : bitCC p t row x thr = bitC row x thr := by rw [bitCC, q1, if_pos rfl]
      rw [q1, q2]
      have HBT := hid (fun (W : World) (hb : Below w.heap.size w W) => bit_c W a a2 n cap n2 cap2 row x hn hn2 hnn (by omega) (H.below hb) (H2.below hb) thr s1 s2)
      have HE := hid hE
      clear q1 q2 hE hn H hn2 H2 hp hrw hxp
      go_enter Try.func29, Try.ntmps29
      go_wp2_with fail
      rw [← hwf]
      clear hwf
      refine (HR.out _ hb0).mono ?_
      rintro e w1 ⟨rfl, hb1⟩
      obtain ⟨f0, f1, f2, f3⟩ := HF.out _ hb1
      clear f2
      go_wp2_with (first | (go_at_call 59; refine (within_c _ _ _ _).mono ?_; rintro e w2 ⟨rfl, rfl⟩) | (go_at_call 74; refine (HBT.out _ (HB.out _ hb1)).mono ?_; rintro e w4 ⟨v, rfl, hv, hb4⟩; refine Stop.of ?_))
      refine Stop.go ?_
      obtain ⟨ra, nn, rc, rfl, hv1, hv2, hv3⟩ := hv
      obtain ⟨g0, g1, g2, g3⟩ := HF.out _ (chain hb1 hb4)
      obtain ⟨c0, c1, c2, cf⟩ := cell3_get g2
      have HC := hid (cell3_set g2 (.slice ra nn rc) (.int .i64 (bitC row x thr).lo) (.int .i64 (bitC row x thr).hi))
      have HV := hid (And.intro hv1 hv3)
      clear g2 hv1 hv3
      obtain ⟨lo, hlo⟩ : ∃ lo, lo = (bitC row x thr).lo := ⟨_, rfl⟩
      obtain ⟨hi, hhi⟩ : ∃ hi, hi = (bitC row x thr).hi := ⟨_, rfl⟩
      rw [← hlo, ← hhi] at HC ⊢
      have HLH := hid (And.intro hlo hhi)
      clear hlo hhi
      go_wp2
      obtain ⟨r0, r1, r2, _⟩ := cell3_get HC.out
      refine bodyPost_ret (v := .tuple #[.agg #[.slice ra nn rc, .int .i64 lo, .int .i64 hi], .int .i64 0]) ?_ rfl ⟨_, rfl, ⟨ra, nn, rc, by rw [HLH.out.1, HLH.out.2], HV.out.1, hv2, (HV.out.2.set3 f3 _ _ _).at⟩, below_set3 (HB.out _ (chain hb1 hb4)) (by omega) _ _ _⟩
      simp [results, Try.results29, go_sem, r0, r1, r2]
  · have hE1 : (rowedE p t row x != 0) = true := by simp [hE]
    have q1 : bitE p t row x thr = rowedE p t row x := by rw [bitE, if_neg hE]
    have q2 : bitCC p t row x thr = ⟨[], 0, 0⟩ := by rw [bitCC, q1, if_neg hE]
    rw [q1, q2]
    clear q1 q2
    have HE := hid hE
    clear hE hn H hn2 H2
    go_enter Try.func29, Try.ntmps29
    go_wp2_with fail
    rw [← hwf]
    clear hwf
    refine (HR.out _ hb0).mono ?_
    rintro e w1 ⟨rfl, hb1⟩
    obtain ⟨f0, f1, f2, f3⟩ := HF.out _ hb1
    obtain ⟨c0, c1, c2, cf⟩ := cell3_get f2
    have HC := hid (cell3_set f2 (.slice none 0 0) (.int .i64 0) (.int .i64 0))
    clear f2
    go_wp2
    obtain ⟨r0, r1, r2, _⟩ := cell3_get HC.out
    refine bodyPost_ret (v := .tuple #[.agg #[.slice none 0 0, .int .i64 0, .int .i64 0], .int .i64 (rowedE p t row x)]) ?_ rfl ⟨_, rfl, CelV.zero _, below_set3 (HB.out _ hb1) (by omega) _ _ _⟩
    simp [results, Try.results29, go_sem, r0, r1, r2]

set_option maxRecDepth 100000 in
theorem refBitP_c (w : World) (p t : Int) (a : Option Addr) (n cap : Nat) (row : List Int) (hn : row.length = n) (hm : n ≤ maxLen) (H : IntsAt w a row) (a2 : Option Addr) (n2 cap2 : Nat) (x : List Int) (hn2 : x.length = n2) (hm2 : n2 ≤ maxLen) (H2 : IntsAt w a2 x) (thr : Int) :
    Calls Try.prog 30 #[.agg #[.int .i64 p, .int .i64 t], .slice a n cap, .slice a2 n2 cap2, .int .i64 thr] w fun e w' => ∃ v, e = .returned (.tuple #[v, .int .i64 (bitE p t row x thr)]) ∧ CelV w' v (bitCC p t row x thr) ∧ Below w.heap.size w w' := by
  obtain ⟨wf, hwf⟩ : ∃ wf, wf = (w.alloc (.cells #[.int .i64 p, .int .i64 t] 23)).alloc (.cells #[.slice none 0 0, .int .i64 0, .int .i64 0] 41) := ⟨_, rfl⟩
  have hb0 : Below w.heap.size w wf := by rw [hwf]; exact ((Below.refl _ _).alloc (Nat.le_refl _) _).alloc (by simp) _
  have HF := hid (two_boxes w wf p t hwf)
  have HB := hid (fun (W : World) (hb : Below wf.heap.size wf W) => chain hb0 hb)
  have HR := hid (fun (W : World) (hb : Below w.heap.size w W) => refSumP_c W p t a n cap row hn hm (H.below hb) a2 n2 cap2 x hn2 hm2 (H2.below hb))
  by_cases hE : rowedE p t row x = 0
  · obtain ⟨p1, p8, t0, t3⟩ := okField_bd (rowE_zero (rowedE_zero hE).1).1
    obtain ⟨hp, hrw⟩ := okRow_len (rowE_zero (rowedE_zero hE).1).2
    obtain ⟨hxp, _⟩ := picE_zero (rowedE_zero hE).2
    have hn8 : n ≤ 8 := by omega
    have hnn : n ≤ n2 := by omega
    rw [hE] at HR
    cases hs : inB thr (-99) 100
    · have q1 : bitE p t row x thr = 7 := by rw [bitE, if_pos hE, hs]; simp
      have q2 : bitCC p t row x thr = ⟨[], 0, 0⟩ := by rw [bitCC, q1, if_neg (by decide)]
      rw [q1, q2]
      have HE := hid hE
      clear q1 q2 hE hn H hn2 H2 hp hrw hxp
      go_enter Try.func30, Try.ntmps30
      go_wp2_with fail
      rw [← hwf]
      clear hwf
      refine (HR.out _ hb0).mono ?_
      rintro e w1 ⟨rfl, hb1⟩
      obtain ⟨f0, f1, f2, f3⟩ := HF.out _ hb1
      obtain ⟨c0, c1, c2, cf⟩ := cell3_get f2
      have HC := hid (cell3_set f2 (.slice none 0 0) (.int .i64 0) (.int .i64 0))
      clear f2
      go_wp2_with (go_at_call 60; refine (in_c _ _ _ _).mono ?_; rintro e w2 ⟨rfl, rfl⟩)
      obtain ⟨r0, r1, r2, _⟩ := cell3_get HC.out
      refine bodyPost_ret (v := .tuple #[.agg #[.slice none 0 0, .int .i64 0, .int .i64 0], .int .i64 7]) ?_ rfl ⟨_, rfl, CelV.zero _, below_set3 (HB.out _ hb1) (by omega) _ _ _⟩
      simp [results, Try.results30, go_sem, r0, r1, r2]
    · have hs' : -99 ≤ thr ∧ thr ≤ 100 := by simpa [inB] using hs
      obtain ⟨s1, s2⟩ := hs'
      have q1 : bitE p t row x thr = 0 := by rw [bitE, if_pos hE, hs]; simp
      have q2 : bitCC p t row x thr = bitC row x thr := by rw [bitCC, q1, if_pos rfl]
      rw [q1, q2]
      have HBT := hid (fun (W : World) (hb : Below w.heap.size w W) => refBit_c W a a2 n cap n2 cap2 row x hn hn2 hnn (by omega) (H.below hb) (H2.below hb) thr s1 s2)
      have HE := hid hE
      clear q1 q2 hE hn H hn2 H2 hp hrw hxp
      go_enter Try.func30, Try.ntmps30
      go_wp2_with fail
      rw [← hwf]
      clear hwf
      refine (HR.out _ hb0).mono ?_
      rintro e w1 ⟨rfl, hb1⟩
      obtain ⟨f0, f1, f2, f3⟩ := HF.out _ hb1
      clear f2
      go_wp2_with (first | (go_at_call 60; refine (in_c _ _ _ _).mono ?_; rintro e w2 ⟨rfl, rfl⟩) | (go_at_call 75; refine (HBT.out _ (HB.out _ hb1)).mono ?_; rintro e w4 ⟨v, rfl, hv, hb4⟩; refine Stop.of ?_))
      refine Stop.go ?_
      obtain ⟨ra, nn, rc, rfl, hv1, hv2, hv3⟩ := hv
      obtain ⟨g0, g1, g2, g3⟩ := HF.out _ (chain hb1 hb4)
      obtain ⟨c0, c1, c2, cf⟩ := cell3_get g2
      have HC := hid (cell3_set g2 (.slice ra nn rc) (.int .i64 (bitC row x thr).lo) (.int .i64 (bitC row x thr).hi))
      have HV := hid (And.intro hv1 hv3)
      clear g2 hv1 hv3
      obtain ⟨lo, hlo⟩ : ∃ lo, lo = (bitC row x thr).lo := ⟨_, rfl⟩
      obtain ⟨hi, hhi⟩ : ∃ hi, hi = (bitC row x thr).hi := ⟨_, rfl⟩
      rw [← hlo, ← hhi] at HC ⊢
      have HLH := hid (And.intro hlo hhi)
      clear hlo hhi
      go_wp2
      obtain ⟨r0, r1, r2, _⟩ := cell3_get HC.out
      refine bodyPost_ret (v := .tuple #[.agg #[.slice ra nn rc, .int .i64 lo, .int .i64 hi], .int .i64 0]) ?_ rfl ⟨_, rfl, ⟨ra, nn, rc, by rw [HLH.out.1, HLH.out.2], HV.out.1, hv2, (HV.out.2.set3 f3 _ _ _).at⟩, below_set3 (HB.out _ (chain hb1 hb4)) (by omega) _ _ _⟩
      simp [results, Try.results30, go_sem, r0, r1, r2]
  · have hE1 : (rowedE p t row x != 0) = true := by simp [hE]
    have q1 : bitE p t row x thr = rowedE p t row x := by rw [bitE, if_neg hE]
    have q2 : bitCC p t row x thr = ⟨[], 0, 0⟩ := by rw [bitCC, q1, if_neg hE]
    rw [q1, q2]
    clear q1 q2
    have HE := hid hE
    clear hE hn H hn2 H2
    go_enter Try.func30, Try.ntmps30
    go_wp2_with fail
    rw [← hwf]
    clear hwf
    refine (HR.out _ hb0).mono ?_
    rintro e w1 ⟨rfl, hb1⟩
    obtain ⟨f0, f1, f2, f3⟩ := HF.out _ hb1
    obtain ⟨c0, c1, c2, cf⟩ := cell3_get f2
    have HC := hid (cell3_set f2 (.slice none 0 0) (.int .i64 0) (.int .i64 0))
    clear f2
    go_wp2
    obtain ⟨r0, r1, r2, _⟩ := cell3_get HC.out
    refine bodyPost_ret (v := .tuple #[.agg #[.slice none 0 0, .int .i64 0, .int .i64 0], .int .i64 (rowedE p t row x)]) ?_ rfl ⟨_, rfl, CelV.zero _, below_set3 (HB.out _ hb1) (by omega) _ _ _⟩
    simp [results, Try.results30, go_sem, r0, r1, r2]

end Go.Proofs.Ytdcflpfaaeijoaa

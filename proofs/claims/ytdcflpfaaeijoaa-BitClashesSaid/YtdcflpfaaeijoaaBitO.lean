/- Walks: SameCell at equal cells, Fits of both packages. -/
import Derived.Test.YtdcflpfaaeijoaaBitN
namespace Go.Proofs.Ytdcflpfaaeijoaa
open Go.RowKit
set_option linter.unusedVariables false

theorem sameCell_c (w : World) (v1 v2 : Value) (c : Cel) (h1 : CelV w v1 c) (h2 : CelV w v2 c) :
    Calls Try.prog 31 #[v1, v2] w fun e w' => e = .returned (.bool true) ∧ Below w.heap.size w w' := by
  obtain ⟨ra, n, rc, rfl, hn, hm, hi⟩ := h1
  obtain ⟨rb, n', rc', rfl, hn', _, hi'⟩ := h2
  obtain rfl : n = n' := by omega
  have HLH := hid (show c.row.length = n from hn)
  obtain ⟨wf, hwf⟩ : ∃ wf, wf = (w.alloc (.cells #[.slice ra n rc, .int .i64 c.lo, .int .i64 c.hi] 41)).alloc (.cells #[.slice rb n rc', .int .i64 c.lo, .int .i64 c.hi] 41) := ⟨_, rfl⟩
  have hb0 : Below w.heap.size w wf := by rw [hwf]; exact ((Below.refl _ _).alloc (Nat.le_refl _) _).alloc (by simp) _
  have hz : wf.heap.size = w.heap.size + 2 := by rw [hwf]; simp
  have hh1 : wf.heap[w.heap.size + 1]? = some (.cells #[.slice rb n rc', .int .i64 c.lo, .int .i64 c.hi] 41 (0, 0)) := by
    rw [hwf]
    have := World.alloc_heap_new (w.alloc (.cells #[.slice ra n rc, .int .i64 c.lo, .int .i64 c.hi] 41)) (.cells #[.slice rb n rc', .int .i64 c.lo, .int .i64 c.hi] 41)
    rw [World.size_alloc] at this
    exact this
  have hh0 : wf.cell? ⟨w.heap.size, 0, none⟩ = some (.slice ra n rc) := by
    rw [hwf, World.cell?_alloc_lt _ _ _ (show w.heap.size < (w.alloc _).heap.size by simp), World.cell?_alloc_at _ _ _ _ rfl]; rfl
  have hh1' := (cell3_get hh1).1
  have HI := hid (hi.below hb0)
  have HI2 := hid (hi'.below hb0)
  have HF := hid (fun (W : World) (hb : Below wf.heap.size wf W) => show W.cell? ⟨w.heap.size, 0, none⟩ = some (.slice ra n rc) ∧ W.cell? ⟨w.heap.size + 1, 0, none⟩ = some (.slice rb n rc') from
    ⟨(hb.cell (p := ⟨w.heap.size, 0, none⟩) (show w.heap.size < wf.heap.size by omega)).trans hh0, (hb.cell (p := ⟨w.heap.size + 1, 0, none⟩) (show w.heap.size + 1 < wf.heap.size by omega)).trans hh1'⟩)
  have HB0 := hid hb0
  unfold maxLen at hm
  clear hn hn' hi hi' hh0 hh1 hh1' hz hb0
  go_enter Try.func31, Try.ntmps31
  go_wp2
  rw [← hwf]
  clear hwf
  go_loopw [30] (fun i wr => ∃ k : Nat, k ≤ n ∧ i = .int .i64 k ∧ Below wf.heap.size wf wr) (fun i _ => n - (intOf i).toNat)
  case atStart => exact ⟨0, Nat.zero_le _, rfl, Below.refl _ _⟩
  case round =>
    obtain ⟨k, hk, rfl, hb⟩ := hrel
    obtain ⟨f0, f1⟩ := HF.out _ hb
    by_cases hlt : k < n
    · have HKL := hid (show k < c.row.length by rw [HLH.out]; exact hlt)
      obtain ⟨b, off, rfl, hbs, hc⟩ := (HI.out.below hb) k HKL.out
      obtain ⟨b', off', rfl, hbs', hc'⟩ := (HI2.out.below hb) k HKL.out
      go_wp2
      go_quiet (fail)
      go_wp2
      exact ⟨⟨k + 1, by omega, by go_num, below_drewN hb _⟩, meas hlt⟩
    · go_wp2
      go_ret
      exact ⟨rfl, chain HB0.out hb⟩

def fitsE (p t : Int) (l : List Cel) (x : List Int) : Int := if okCells p t l then picE p t x else 1
def fitsV (p t : Int) (l : List Cel) (x : List Int) : Bool := if fitsE p t l x = 0 then fitA l x else false

theorem fitsP_c (w : World) (p t : Int) (a : Option Addr) (n cap : Nat) (l : List Cel) (hn : l.length = n) (hm : n ≤ maxLen) (H : CellsAt w a l) (a2 : Option Addr) (n2 cap2 : Nat) (x : List Int) (hn2 : x.length = n2) (hm2 : n2 ≤ maxLen) (H2 : IntsAt w a2 x) :
    Calls Try.prog 32 #[.agg #[.int .i64 p, .int .i64 t], .slice a n cap, .slice a2 n2 cap2] w fun e w' => e = .returned (.tuple #[.bool (fitsV p t l x), .int .i64 (fitsE p t l x)]) ∧ Below w.heap.size w w' := by
  obtain ⟨wf, hwf⟩ : ∃ wf, wf = w.alloc (.cells #[.int .i64 p, .int .i64 t] 23) := ⟨_, rfl⟩
  have hb0 : Below w.heap.size w wf := by rw [hwf]; exact (Below.refl _ _).alloc (Nat.le_refl _) _
  have HF := hid (fun (W : World) (hb : Below wf.heap.size wf W) => show W.cell? ⟨w.heap.size, 0, none⟩ = some (.int .i64 p) ∧ W.cell? ⟨w.heap.size, 1, none⟩ = some (.int .i64 t) from by
    have hz : wf.heap.size = w.heap.size + 1 := by rw [hwf]; simp
    refine ⟨(hb.cell (p := ⟨w.heap.size, 0, none⟩) (show w.heap.size < wf.heap.size by omega)).trans ?_, (hb.cell (p := ⟨w.heap.size, 1, none⟩) (show w.heap.size < wf.heap.size by omega)).trans ?_⟩ <;> (rw [hwf, World.cell?_alloc_at _ _ _ _ rfl]; rfl))
  have HV := hid (fun (W : World) (hb : Below w.heap.size w W) => validCells_c W p t a n cap l hn hm (H.below hb))
  have HP := hid (fun (W : World) (hb : Below w.heap.size w W) => pictured_c W p t a2 n2 cap2 x hn2 hm2 (H2.below hb))
  cases hf : okCells p t l
  · have e1 : fitsE p t l x = 1 := by simp [fitsE, hf]
    have e2 : fitsV p t l x = false := by simp [fitsV, e1]
    rw [e1, e2]
    rw [hf] at HV
    clear e1 e2 hn H hn2 H2
    go_enter Try.func32, Try.ntmps32
    go_wp2_with fail
    rw [← hwf]
    clear hwf
    refine (HV.out _ hb0).mono ?_
    rintro e w1 ⟨rfl, hb1⟩
    go_wp2
    go_ret2
    exact ⟨rfl, chain hb0 hb1⟩
  · obtain ⟨hfd, hrows⟩ := okCells_bd hf
    have e1 : fitsE p t l x = picE p t x := by simp [fitsE, hf]
    rw [hf] at HV
    by_cases hpe : picE p t x = 0
    · have e2 : fitsV p t l x = fitA l x := by simp [fitsV, e1, hpe]
      rw [e1, e2, hpe]
      rw [hpe] at HP
      have hxl := (picE_zero hpe).1
      have HX := hid (fun (W : World) (hb : Below w.heap.size w W) => fits_c W a n cap l hn hm (H.below hb) a2 n2 cap2 x hn2 (H2.below hb) (fun c hc => by have := hrows c hc; omega))
      have HPE := hid hpe
      clear e1 e2 hn H hn2 H2 hrows hxl hpe
      go_enter Try.func32, Try.ntmps32
      go_wp2_with fail
      rw [← hwf]
      clear hwf
      refine (HV.out _ hb0).mono ?_
      rintro e w1 ⟨rfl, hb1⟩
      obtain ⟨f0, f1⟩ := HF.out _ hb1
      go_wp2_with (first | (go_at_call 76; refine (HP.out _ (chain hb0 hb1)).mono ?_; rintro e w2 ⟨rfl, hb2⟩; have hbw2 := chain (chain hb0 hb1) hb2) | (go_at_call 77; refine (HX.out _ hbw2).mono ?_; rintro e w3 ⟨rfl, hb3⟩))
      go_ret2
      exact ⟨rfl, chain hbw2 hb3⟩
    · have e2 : fitsV p t l x = false := by simp [fitsV, e1, hpe]
      rw [e1, e2]
      have hpe1 : (picE p t x != 0) = true := by simp [hpe]
      have HPE := hid hpe
      clear e1 e2 hn H hn2 H2 hrows hpe
      go_enter Try.func32, Try.ntmps32
      go_wp2_with fail
      rw [← hwf]
      clear hwf
      refine (HV.out _ hb0).mono ?_
      rintro e w1 ⟨rfl, hb1⟩
      obtain ⟨f0, f1⟩ := HF.out _ hb1
      go_wp2_with (first | (go_at_call 76; refine (HP.out _ (chain hb0 hb1)).mono ?_; rintro e w2 ⟨rfl, hb2⟩; have hbw2 := chain (chain hb0 hb1) hb2))
      go_ret2
      exact ⟨rfl, hbw2⟩

theorem refFitsP_c (w : World) (p t : Int) (a : Option Addr) (n cap : Nat) (l : List Cel) (hn : l.length = n) (hm : n ≤ maxLen) (H : CellsAt w a l) (a2 : Option Addr) (n2 cap2 : Nat) (x : List Int) (hn2 : x.length = n2) (hm2 : n2 ≤ maxLen) (H2 : IntsAt w a2 x) :
    Calls Try.prog 33 #[.agg #[.int .i64 p, .int .i64 t], .slice a n cap, .slice a2 n2 cap2] w fun e w' => e = .returned (.tuple #[.bool (fitsV p t l x), .int .i64 (fitsE p t l x)]) ∧ Below w.heap.size w w' := by
  obtain ⟨wf, hwf⟩ : ∃ wf, wf = w.alloc (.cells #[.int .i64 p, .int .i64 t] 23) := ⟨_, rfl⟩
  have hb0 : Below w.heap.size w wf := by rw [hwf]; exact (Below.refl _ _).alloc (Nat.le_refl _) _
  have HF := hid (fun (W : World) (hb : Below wf.heap.size wf W) => show W.cell? ⟨w.heap.size, 0, none⟩ = some (.int .i64 p) ∧ W.cell? ⟨w.heap.size, 1, none⟩ = some (.int .i64 t) from by
    have hz : wf.heap.size = w.heap.size + 1 := by rw [hwf]; simp
    refine ⟨(hb.cell (p := ⟨w.heap.size, 0, none⟩) (show w.heap.size < wf.heap.size by omega)).trans ?_, (hb.cell (p := ⟨w.heap.size, 1, none⟩) (show w.heap.size < wf.heap.size by omega)).trans ?_⟩ <;> (rw [hwf, World.cell?_alloc_at _ _ _ _ rfl]; rfl))
  have HV := hid (fun (W : World) (hb : Below w.heap.size w W) => refValidCells_c W p t a n cap l hn hm (H.below hb))
  have HP := hid (fun (W : World) (hb : Below w.heap.size w W) => refPicture_c W p t a2 n2 cap2 x hn2 hm2 (H2.below hb))
  cases hf : okCells p t l
  · have e1 : fitsE p t l x = 1 := by simp [fitsE, hf]
    have e2 : fitsV p t l x = false := by simp [fitsV, e1]
    rw [e1, e2]
    rw [hf] at HV
    clear e1 e2 hn H hn2 H2
    go_enter Try.func33, Try.ntmps33
    go_wp2_with fail
    rw [← hwf]
    clear hwf
    refine (HV.out _ hb0).mono ?_
    rintro e w1 ⟨rfl, hb1⟩
    go_wp2
    go_ret2
    exact ⟨rfl, chain hb0 hb1⟩
  · obtain ⟨hfd, hrows⟩ := okCells_bd hf
    have e1 : fitsE p t l x = picE p t x := by simp [fitsE, hf]
    rw [hf] at HV
    by_cases hpe : picE p t x = 0
    · have e2 : fitsV p t l x = fitA l x := by simp [fitsV, e1, hpe]
      rw [e1, e2, hpe]
      rw [hpe] at HP
      have hxl := (picE_zero hpe).1
      have HX := hid (fun (W : World) (hb : Below w.heap.size w W) => refFits_c W a n cap l hn hm (H.below hb) a2 n2 cap2 x hn2 (H2.below hb) (fun c hc => by have := hrows c hc; omega))
      have HPE := hid hpe
      clear e1 e2 hn H hn2 H2 hrows hxl hpe
      go_enter Try.func33, Try.ntmps33
      go_wp2_with fail
      rw [← hwf]
      clear hwf
      refine (HV.out _ hb0).mono ?_
      rintro e w1 ⟨rfl, hb1⟩
      obtain ⟨f0, f1⟩ := HF.out _ hb1
      go_wp2_with (first | (go_at_call 56; refine (HP.out _ (chain hb0 hb1)).mono ?_; rintro e w2 ⟨rfl, hb2⟩; have hbw2 := chain (chain hb0 hb1) hb2) | (go_at_call 78; refine (HX.out _ hbw2).mono ?_; rintro e w3 ⟨rfl, hb3⟩))
      go_ret2
      exact ⟨rfl, chain hbw2 hb3⟩
    · have e2 : fitsV p t l x = false := by simp [fitsV, e1, hpe]
      rw [e1, e2]
      have hpe1 : (picE p t x != 0) = true := by simp [hpe]
      have HPE := hid hpe
      clear e1 e2 hn H hn2 H2 hrows hpe
      go_enter Try.func33, Try.ntmps33
      go_wp2_with fail
      rw [← hwf]
      clear hwf
      refine (HV.out _ hb0).mono ?_
      rintro e w1 ⟨rfl, hb1⟩
      obtain ⟨f0, f1⟩ := HF.out _ hb1
      go_wp2_with (first | (go_at_call 56; refine (HP.out _ (chain hb0 hb1)).mono ?_; rintro e w2 ⟨rfl, hb2⟩; have hbw2 := chain (chain hb0 hb1) hb2))
      go_ret2
      exact ⟨rfl, hbw2⟩
end Go.Proofs.Ytdcflpfaaeijoaa

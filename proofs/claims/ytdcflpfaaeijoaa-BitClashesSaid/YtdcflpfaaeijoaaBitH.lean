/- Walks: Sum and Sight. -/
import Derived.Test.YtdcflpfaaeijoaaBitG
namespace Go.Proofs.Ytdcflpfaaeijoaa
open Go.RowKit
set_option linter.unusedVariables false

theorem okRow_len {p : Int} {row : List Int} (h : okRow p row = true) : (row.length : Int) = p ∧ ∀ n ∈ row, -1 ≤ n ∧ n ≤ 1 := by
  unfold okRow at h
  simp [inB] at h
  exact h
theorem picE_zero {p t : Int} {x : List Int} (h : picE p t x = 0) : (x.length : Int) = p ∧ ∀ n ∈ x, 0 ≤ n ∧ n ≤ t := by
  unfold picE at h
  split at h
  · omega
  · split at h
    · rename_i h1 h2
      refine ⟨by omega, fun n hn => ?_⟩
      have := List.all_eq_true.1 h2 n hn
      simpa [inB] using this
    · omega
theorem rowE_zero {p t : Int} {row : List Int} (h : rowE p t row = 0) : okField p t = true ∧ okRow p row = true := by
  unfold rowE at h
  split at h
  · rename_i h1; simpa using h1
  · omega
theorem rowedE_zero {p t : Int} {row x : List Int} (h : rowedE p t row x = 0) : rowE p t row = 0 ∧ picE p t x = 0 := by
  unfold rowedE at h
  split at h
  · exact ⟨by assumption, h⟩
  · omega

def sumV (p t : Int) (row x : List Int) : Int := if rowedE p t row x = 0 then dotW row x else 0

theorem sumP_c (w : World) (p t : Int) (a : Option Addr) (n cap : Nat) (row : List Int) (hn : row.length = n) (hm : n ≤ maxLen) (H : IntsAt w a row) (a2 : Option Addr) (n2 cap2 : Nat) (x : List Int) (hn2 : x.length = n2) (hm2 : n2 ≤ maxLen) (H2 : IntsAt w a2 x) :
    Calls Try.prog 15 #[.agg #[.int .i64 p, .int .i64 t], .slice a n cap, .slice a2 n2 cap2] w fun e w' => e = .returned (.tuple #[.int .i64 (sumV p t row x), .int .i64 (rowedE p t row x)]) ∧ Below w.heap.size w w' := by
  have hb0 : Below w.heap.size w (w.alloc (.cells #[.int .i64 p, .int .i64 t] 23)) := (Below.refl _ _).alloc (Nat.le_refl _) _
  have HR := hid (rowed_c _ p t a n cap row hn hm (H.below hb0) a2 n2 cap2 x hn2 hm2 (H2.below hb0))
  have HS := hid (fun (W : World) (hb : Below w.heap.size w W) (hle : n ≤ n2) => sum_c W a a2 n cap n2 cap2 row x hn hn2 hle hm (H.below hb) (H2.below hb))
  have hz : rowedE p t row x = 0 → n ≤ n2 := fun h => by
    have h1 := okRow_len (rowE_zero (rowedE_zero h).1).2
    have h2 := picE_zero (rowedE_zero h).2
    omega
  clear hn H hn2 H2
  obtain ⟨E, hE⟩ : ∃ E, E = rowedE p t row x := ⟨_, rfl⟩
  have hv : sumV p t row x = if E = 0 then dotW row x else 0 := by unfold sumV; rw [hE]
  rw [← hE] at hz ⊢
  rw [hv]
  have HE := hid hE
  clear hE hv
  by_cases h : E = 0
  · have hle := hz h
    subst h
    clear hz
    go_enter Try.func15, Try.ntmps15
    go_wp2_with (first | (go_at_call 53; refine HR.out.mono ?_; rintro e w1 ⟨rfl, hb1⟩; rw [← HE.out]) | (go_at_call 54; refine (HS.out _ (chain hb0 hb1) hle).mono ?_; rintro e w2 ⟨rfl, rfl⟩))
    go_ret2
    exact ⟨by simp, chain hb0 hb1⟩
  · have h1 : (E != 0) = true := by simp [h]
    rw [if_neg h]
    clear hz
    go_enter Try.func15, Try.ntmps15
    go_wp2_with (first | (go_at_call 53; refine HR.out.mono ?_; rintro e w1 ⟨rfl, hb1⟩; rw [← HE.out]))
    go_ret2
    exact ⟨rfl, chain hb0 hb1⟩

theorem refRowed_c (w : World) (p t : Int) (a : Option Addr) (n cap : Nat) (row : List Int) (hn : row.length = n) (hm : n ≤ maxLen) (H : IntsAt w a row) :
    Calls Try.prog 55 #[.agg #[.int .i64 p, .int .i64 t], .slice a n cap] w fun e w' => e = .returned (.int .i64 (rowE p t row)) ∧ Below w.heap.size w w' := by
  have hb0 : Below w.heap.size w (w.alloc (.cells #[.int .i64 p, .int .i64 t] 23)) := (Below.refl _ _).alloc (Nat.le_refl _) _
  have HV := hid (fun (W : World) (hb : Below w.heap.size w W) => refValidRow_c W p a n cap row hn hm (H.below hb))
  clear hn H
  cases hf : okField p t <;> cases hr : okRow p row
  all_goals
    go_enter Try.func55, Try.ntmps55
    go_wp2_with (first | (go_at_call 20; refine (refValidField_c _ _ _).mono ?_; rintro e w1 ⟨rfl, hb1⟩; obtain ⟨hc1, hf1⟩ := bcell hb1) | (go_at_call 93; refine (HV.out _ (chain hb0 hb1)).mono ?_; rintro e w2 ⟨rfl, rfl⟩))
    go_ret
    exact ⟨ret_int (by simp [rowE, hf, hr]), chain hb0 hb1⟩

theorem refSumP_c (w : World) (p t : Int) (a : Option Addr) (n cap : Nat) (row : List Int) (hn : row.length = n) (hm : n ≤ maxLen) (H : IntsAt w a row) (a2 : Option Addr) (n2 cap2 : Nat) (x : List Int) (hn2 : x.length = n2) (hm2 : n2 ≤ maxLen) (H2 : IntsAt w a2 x) :
    Calls Try.prog 16 #[.agg #[.int .i64 p, .int .i64 t], .slice a n cap, .slice a2 n2 cap2] w fun e w' => e = .returned (.tuple #[.int .i64 (sumV p t row x), .int .i64 (rowedE p t row x)]) ∧ Below w.heap.size w w' := by
  have hb0 : Below w.heap.size w (w.alloc (.cells #[.int .i64 p, .int .i64 t] 23)) := (Below.refl _ _).alloc (Nat.le_refl _) _
  have HR := hid (refRowed_c _ p t a n cap row hn hm (H.below hb0))
  have HP := hid (fun (W : World) (hb : Below w.heap.size w W) => refPicture_c W p t a2 n2 cap2 x hn2 hm2 (H2.below hb))
  have HS := hid (fun (W : World) (hb : Below w.heap.size w W) (hle : n ≤ n2) => refSum_c W a a2 n cap n2 cap2 row x hn hn2 hle hm (H.below hb) (H2.below hb))
  have hz : rowE p t row = 0 → picE p t x = 0 → n ≤ n2 := fun h h' => by
    have h1 := okRow_len (rowE_zero h).2
    have h2 := picE_zero h'
    omega
  clear hn H hn2 H2
  obtain ⟨E, hE⟩ : ∃ E, E = rowE p t row := ⟨_, rfl⟩
  obtain ⟨G, hG⟩ : ∃ G, G = picE p t x := ⟨_, rfl⟩
  have hv : sumV p t row x = if E = 0 ∧ G = 0 then dotW row x else 0 := by
    unfold sumV rowedE; rw [← hE, ← hG]
    by_cases h : E = 0
    · rw [if_pos h]; simp [h]
    · rw [if_neg h]; simp [h]
  have hw : rowedE p t row x = if E = 0 then G else 1 := by unfold rowedE; rw [← hE, ← hG]
  rw [← hE, ← hG] at hz
  rw [hv, hw]
  have HE := hid hE
  have HG := hid hG
  have hE1 : E = 0 ∨ E = 1 := by rw [hE]; unfold rowE; split <;> simp
  clear hE hG hv hw
  rcases hE1 with h | h
  · subst h
    by_cases h : G = 0
    · have hle := hz rfl h
      subst h
      clear hz
      go_enter Try.func16, Try.ntmps16
      go_wp2_with (first | (go_at_call 55; refine HR.out.mono ?_; rintro e w1 ⟨rfl, hb1⟩; rw [← HE.out]; obtain ⟨hc1, hf1⟩ := bcell hb1) | (go_at_call 56; refine (HP.out _ (chain hb0 hb1)).mono ?_; rintro e w2 ⟨rfl, hb2⟩; rw [← HG.out]) | (go_at_call 57; refine (HS.out _ (chain (chain hb0 hb1) hb2) hle).mono ?_; rintro e w3 ⟨rfl, rfl⟩))
      go_ret2
      exact ⟨by simp, chain (chain hb0 hb1) hb2⟩
    · have h1 : (G != 0) = true := by simp [h]
      rw [if_neg (fun x => h x.2), if_pos rfl]
      clear hz
      go_enter Try.func16, Try.ntmps16
      go_wp2_with (first | (go_at_call 55; refine HR.out.mono ?_; rintro e w1 ⟨rfl, hb1⟩; rw [← HE.out]; obtain ⟨hc1, hf1⟩ := bcell hb1) | (go_at_call 56; refine (HP.out _ (chain hb0 hb1)).mono ?_; rintro e w2 ⟨rfl, hb2⟩; rw [← HG.out]))
      go_ret2
      exact ⟨rfl, chain (chain hb0 hb1) hb2⟩
  · subst h
    clear hz
    go_enter Try.func16, Try.ntmps16
    go_wp2_with (first | (go_at_call 55; refine HR.out.mono ?_; rintro e w1 ⟨rfl, hb1⟩; rw [← HE.out]))
    go_ret2
    exact ⟨by simp, chain hb0 hb1⟩

/-- the ends of a row's sight, of its first k numbers -/
def sLo (t : Int) (row : List Int) : Nat → Int
  | 0 => 0
  | k + 1 => sLo t row k - (if row[k]?.getD 0 < 0 then t else 0)
def sHi (t : Int) (row : List Int) : Nat → Int
  | 0 => 0
  | k + 1 => sHi t row k + (if 0 < row[k]?.getD 0 then t else 0)
def sightLo (p t : Int) (row : List Int) : Int := if rowE p t row = 0 then sLo t row row.length else 0
def sightHi (p t : Int) (row : List Int) : Int := if rowE p t row = 0 then sHi t row row.length else 0

theorem sLo_bd {t : Int} (h0 : 0 ≤ t) (h3 : t ≤ 3) (row : List Int) : ∀ k : Nat, -3 * (k : Int) ≤ sLo t row k ∧ sLo t row k ≤ 0
  | 0 => by simp [sLo]
  | k + 1 => by have := sLo_bd h0 h3 row k; simp only [sLo]; split <;> omega
theorem sHi_bd {t : Int} (h0 : 0 ≤ t) (h3 : t ≤ 3) (row : List Int) : ∀ k : Nat, 0 ≤ sHi t row k ∧ sHi t row k ≤ 3 * (k : Int)
  | 0 => by simp [sHi]
  | k + 1 => by have := sHi_bd h0 h3 row k; simp only [sHi]; split <;> omega

theorem lo_step {x t L : Int} (hx : -1 ≤ x ∧ x ≤ 1) (ht : 0 ≤ t ∧ t ≤ 3) (hL : -30 ≤ L ∧ L ≤ 0) : wrap64 (L + wrap64 ((if 0 < x then 0 else x) * t)) = L - (if x < 0 then t else 0) := by
  have : x = -1 ∨ x = 0 ∨ x = 1 := by omega
  rcases this with rfl | rfl | rfl <;> simp <;> unfold wrap64 <;> omega
theorem hi_step {x t L : Int} (hx : -1 ≤ x ∧ x ≤ 1) (ht : 0 ≤ t ∧ t ≤ 3) (hL : 0 ≤ L ∧ L ≤ 30) : wrap64 (L + wrap64 ((if x < 0 then 0 else x) * t)) = L + (if 0 < x then t else 0) := by
  have : x = -1 ∨ x = 0 ∨ x = 1 := by omega
  rcases this with rfl | rfl | rfl <;> simp <;> unfold wrap64 <;> omega

set_option maxHeartbeats 1000000 in
theorem sight_c (w : World) (p t : Int) (a : Option Addr) (n cap : Nat) (row : List Int) (hn : row.length = n) (hm : n ≤ maxLen) (H : IntsAt w a row) :
    Calls Try.prog 17 #[.agg #[.int .i64 p, .int .i64 t], .slice a n cap] w fun e w' => e = .returned (.tuple #[.agg #[.int .i64 (sightLo p t row), .int .i64 (sightHi p t row)], .int .i64 (rowE p t row)]) ∧ Below w.heap.size w w' := by
  have hb0 : Below w.heap.size w ((w.alloc (.cells #[.int .i64 p, .int .i64 t] 23)).alloc (.cells #[.int .i64 0, .int .i64 0] 34)) := ((Below.refl _ _).alloc (Nat.le_refl _) _).alloc (by simp) _
  have HV := hid (fun (W : World) (hb : Below w.heap.size w W) => validRow_c W p a n cap row hn hm (H.below hb))
  have HN := hid hn
  have HH := hid H
  clear hn H
  unfold maxLen at hm
  cases hf : okField p t <;> cases hr : okRow p row
  case false.false | false.true =>
    go_enter Try.func17, Try.ntmps17
    go_wp2_with (first | (go_at_call 19; refine (validField_c _ _ _).mono ?_; rintro e w1 ⟨rfl, hb1⟩; obtain ⟨hc1, hf1⟩ := bcell hb1))
    have hz1 : w.heap.size + 1 < w1.heap.size := by have := hb1.size; simp at this; omega
    refine bodyPost_ret (v := .tuple #[.agg #[.int .i64 0, .int .i64 0], .int .i64 1]) ?_ rfl ⟨by simp [sightLo, sightHi, rowE, hf, hr], ?_⟩
    · simp [results, Try.results17, go_sem, hc1, hz1]
    · exact below_set (below_set (chain hb0 hb1) (by omega) _ _) (by omega) _ _
  case true.false =>
    go_enter Try.func17, Try.ntmps17
    go_wp2_with (first | (go_at_call 19; refine (validField_c _ _ _).mono ?_; rintro e w1 ⟨rfl, hb1⟩; obtain ⟨hc1, hf1⟩ := bcell hb1) | (go_at_call 58; refine (HV.out _ (chain hb0 hb1)).mono ?_; rintro e w2 ⟨rfl, hb2⟩; obtain ⟨hc2, hf2⟩ := bcell hb2; have hz2 : w.heap.size + 1 < w1.heap.size := by have := hb1.size; simp at this; omega))
    have hz3 : w1.heap.size ≤ w2.heap.size := hb2.size
    have hz4 : w.heap.size + 1 < w2.heap.size := by omega
    refine bodyPost_ret (v := .tuple #[.agg #[.int .i64 0, .int .i64 0], .int .i64 1]) ?_ rfl ⟨by simp [sightLo, sightHi, rowE, hf, hr], ?_⟩
    · simp [results, Try.results17, go_sem, hc2, hc1, hz2]
    · exact below_set (below_set (chain (chain hb0 hb1) hb2) (by omega) _ _) (by omega) _ _
  case true.true =>
    go_enter Try.func17, Try.ntmps17
    go_wp2_with (first | (go_at_call 19; refine (validField_c _ _ _).mono ?_; rintro e w1 ⟨rfl, hb1⟩; obtain ⟨hc1, hf1⟩ := bcell hb1) | (go_at_call 58; refine (HV.out _ (chain hb0 hb1)).mono ?_; rintro e w2 ⟨rfl, hb2⟩; obtain ⟨hc2, hf2⟩ := bcell hb2; have hz2 : w.heap.size + 1 < w1.heap.size := by have := hb1.size; simp at this; omega))
    have hz1 : w.heap.size + 1 < w1.heap.size := by have := hb1.size; simp at this; omega
    have hz2 : w1.heap.size ≤ w2.heap.size := hb2.size
    have ht2 : w2.cell? ⟨w.heap.size, 1, none⟩ = some (.int .i64 t) := by
      rw [hc2 _ _ (by omega), hc1 _ _ (by simp; omega), World.cell?_alloc_past _ _ _ (by simp), World.cell?_alloc_at _ _ _ _ rfl]; rfl
    have hbw2 : Below w.heap.size w w2 := chain (chain hb0 hb1) hb2
    have hq2 : w2.heap[w.heap.size + 1]? = some (.cells #[.int .i64 0, .int .i64 0] 34 (0, 0)) := by
      refine (hb2.block _ (by omega)).trans ((hb1.block _ (by simp)).trans ?_)
      have := World.alloc_heap_new (w.alloc (.cells #[.int .i64 p, .int .i64 t] 23)) (.cells #[.int .i64 0, .int .i64 0] 34)
      rwa [World.size_alloc] at this
    have HQ2 := hid hq2
    clear hq2
    clear hc1 hf1 hc2 hf2
    obtain ⟨wb, hwb⟩ : ∃ wb, wb = w2 := ⟨_, rfl⟩
    have ht3 : 0 ≤ t ∧ t ≤ 3 := by unfold okField inB at hf; simp at hf; omega
    have hrl := okRow_len hr
    have hp8 : n ≤ 8 := by have h1 := hrl.1; have h2 := HN.out; unfold okField inB at hf; simp at hf; omega
    have HRL := hid hrl
    clear hrl
    go_loopw [22] (fun i wr => ∃ k : Nat, k ≤ n ∧ i = .int .i64 k ∧ Below w2.heap.size w2 wr ∧ wr.heap[w2.heap.size]? = some (.cells #[.int .i64 (sLo t row k), .int .i64 (sHi t row k)] 34 (0, 0))) (fun i _ => n - (intOf i).toNat)
    case atStart => exact ⟨0, Nat.zero_le _, rfl, (Below.refl _ _).alloc (Nat.le_refl _) _, World.alloc_heap_new _ _⟩
    case round =>
      obtain ⟨k, hk, rfl, hb3, hs⟩ := hrel
      have h0 : wr.cell? ⟨w2.heap.size, 0, none⟩ = some (.int .i64 (sLo t row k)) := by simp [World.cell?, hs]
      have h1 : wr.cell? ⟨w2.heap.size, 1, none⟩ = some (.int .i64 (sHi t row k)) := by simp [World.cell?, hs]
      have hfz : ∀ o, wr.frozen? ⟨w2.heap.size, o, none⟩ = false := by intro o; simp [World.frozen?, hs]
      have ht4 : wr.cell? ⟨w.heap.size, 1, none⟩ = some (.int .i64 t) := (hb3.cell (p := ⟨w.heap.size, 1, none⟩) (show w.heap.size < w2.heap.size by omega)).trans ht2
      have HS := hid hs
      clear hs ht2
      by_cases hlt : k < n
      · have HKL := hid (show k < row.length by rw [HN.out]; exact hlt)
        obtain ⟨b, off, rfl, hbs, hc⟩ := (HH.out.below (chain hbw2 hb3)) k HKL.out
        have hl := sLo_bd ht3.1 ht3.2 row k
        have hh := sHi_bd ht3.1 ht3.2 row k
        have hn1 : -1 ≤ row[k]?.getD 0 ∧ row[k]?.getD 0 ≤ 1 := by
          rw [List.getElem?_eq_getElem HKL.out]; exact HRL.out.2 _ (List.getElem_mem HKL.out)
        have e1 := hid (lo_step (L := sLo t row k) hn1 ht3 (by omega))
        have e2 := hid (hi_step (L := sHi t row k) hn1 ht3 (by omega))
        go_wp2
        go_region
        go_wp2
        refine ⟨⟨k + 1, by omega, by go_num, ?_, ?_⟩, by simp [intOf]; omega⟩
        · repeat (first | exact hb3 | refine below_set ?_ (Nat.le_refl _) _ _ | refine Below.drew ?_)
        · refine (cells_set (cells_set HS.out 0 _) 1 _).trans ?_
          simp [sLo, sHi, e1.out, e2.out]
      · obtain rfl : k = n := by omega
        have hq3 : wr.heap[w.heap.size + 1]? = some (.cells #[.int .i64 0, .int .i64 0] 34 (0, 0)) := (hb3.block _ (by omega)).trans HQ2.out
        have g0 : wr.cell? ⟨w.heap.size + 1, 0, none⟩ = some (.int .i64 0) := by simp [World.cell?, hq3]
        have g1 : wr.cell? ⟨w.heap.size + 1, 1, none⟩ = some (.int .i64 0) := by simp [World.cell?, hq3]
        have gf : ∀ o, wr.frozen? ⟨w.heap.size + 1, o, none⟩ = false := by intro o; simp [World.frozen?, hq3]
        have hbE : Below w.heap.size w ((wr.setCell ⟨w.heap.size + 1, 0, none⟩ (.int .i64 (sLo t row k))).setCell ⟨w.heap.size + 1, 1, none⟩ (.int .i64 (sHi t row k))) := below_set (below_set (chain hbw2 hb3) (by omega) _ _) (by omega) _ _
        have HBE := hid hbE
        have HH2 := hid (cells_set (cells_set hq3 0 (.int .i64 (sLo t row k))) 1 (.int .i64 (sHi t row k)))
        clear hq3 hbE
        go_wp2
        have r0 : ((wr.setCell ⟨w.heap.size + 1, 0, none⟩ (.int .i64 (sLo t row k))).setCell ⟨w.heap.size + 1, 1, none⟩ (.int .i64 (sHi t row k))).cell? ⟨w.heap.size + 1, 0, none⟩ = some (.int .i64 (sLo t row k)) := by simp only [World.cell?, HH2.out]; simp
        have r1 : ((wr.setCell ⟨w.heap.size + 1, 0, none⟩ (.int .i64 (sLo t row k))).setCell ⟨w.heap.size + 1, 1, none⟩ (.int .i64 (sHi t row k))).cell? ⟨w.heap.size + 1, 1, none⟩ = some (.int .i64 (sHi t row k)) := by simp only [World.cell?, HH2.out]; simp
        refine bodyPost_ret (v := .tuple #[.agg #[.int .i64 (sLo t row k), .int .i64 (sHi t row k)], .int .i64 0]) ?_ rfl ⟨by simp [sightLo, sightHi, rowE, hf, hr, HN.out], HBE.out⟩
        simp [results, Try.results17, go_sem, r0, r1]
end Go.Proofs.Ytdcflpfaaeijoaa

/- Walks: the reference's Sight, the number of pictures, Count. -/
import Derived.Test.YtdcflpfaaeijoaaBitH
namespace Go.Proofs.Ytdcflpfaaeijoaa
open Go.RowKit
set_option linter.unusedVariables false

theorem okField_bd {p t : Int} (h : okField p t = true) : 1 ≤ p ∧ p ≤ 8 ∧ 0 ≤ t ∧ t ≤ 3 := by
  unfold okField inB at h; simp at h; omega

set_option maxHeartbeats 1000000 in
theorem refSight_c (w : World) (p t : Int) (a : Option Addr) (n cap : Nat) (row : List Int) (hn : row.length = n) (hm : n ≤ maxLen) (H : IntsAt w a row) :
    Calls Try.prog 18 #[.agg #[.int .i64 p, .int .i64 t], .slice a n cap] w fun e w' => e = .returned (.tuple #[.agg #[.int .i64 (sightLo p t row), .int .i64 (sightHi p t row)], .int .i64 (rowE p t row)]) ∧ Below w.heap.size w w' := by
  have hb0 : Below w.heap.size w ((w.alloc (.cells #[.int .i64 p, .int .i64 t] 23)).alloc (.cells #[.int .i64 0, .int .i64 0] 34)) := ((Below.refl _ _).alloc (Nat.le_refl _) _).alloc (by simp) _
  have HV := hid (fun (W : World) (hb : Below w.heap.size w W) => refRowed_c W p t a n cap row hn hm (H.below hb))
  have HN := hid hn
  have HH := hid H
  clear hn H
  unfold maxLen at hm
  have hE1 : rowE p t row = 0 ∨ rowE p t row = 1 := by unfold rowE; split <;> simp
  have hz0 : rowE p t row = 0 → 0 ≤ t ∧ t ≤ 3 ∧ n ≤ 8 ∧ ∀ x ∈ row, -1 ≤ x ∧ x ≤ 1 := fun h => by
    have h1 := okField_bd (rowE_zero h).1
    have h2 := okRow_len (rowE_zero h).2
    have h3 := HN.out
    exact ⟨h1.2.2.1, h1.2.2.2, by omega, h2.2⟩
  obtain ⟨E, hE⟩ : ∃ E, E = rowE p t row := ⟨_, rfl⟩
  have HLo : Hid (sightLo p t row = if E = 0 then sLo t row row.length else 0) := by rw [hE]; rfl
  have HHi : Hid (sightHi p t row = if E = 0 then sHi t row row.length else 0) := by rw [hE]; rfl
  rw [← hE] at hE1 hz0 ⊢
  have HE := hid hE
  clear hE
  rcases hE1 with h | h
  · have hz1 := hz0 h
    subst h
    clear hz0
    go_enter Try.func18, Try.ntmps18
    go_wp2_with (first | (go_at_call 55; refine (HV.out _ hb0).mono ?_; rintro e w2 ⟨rfl, hb2⟩; rw [← HE.out]))
    have hz2 : w.heap.size + 1 < w2.heap.size := by have := hb2.size; simp at this; omega
    obtain ⟨hc2, hf2⟩ := bcell hb2
    have ht2 : w2.cell? ⟨w.heap.size, 1, none⟩ = some (.int .i64 t) := by
      rw [hc2 _ _ (by simp; omega), World.cell?_alloc_past _ _ _ (by simp), World.cell?_alloc_at _ _ _ _ rfl]; rfl
    have hbw2 : Below w.heap.size w w2 := chain hb0 hb2
    have hq2 : w2.heap[w.heap.size + 1]? = some (.cells #[.int .i64 0, .int .i64 0] 34 (0, 0)) := by
      refine (hb2.block _ (by simp)).trans ?_
      have := World.alloc_heap_new (w.alloc (.cells #[.int .i64 p, .int .i64 t] 23)) (.cells #[.int .i64 0, .int .i64 0] 34)
      rwa [World.size_alloc] at this
    have HQ2 := hid hq2
    have HRL := hid hz1
    obtain ⟨t0, t3, hp8, _⟩ := hz1
    clear hc2 hf2 hq2
    go_loopw [20] (fun i wr => ∃ k : Nat, k ≤ n ∧ i = .int .i64 k ∧ Below w2.heap.size w2 wr ∧ wr.heap[w2.heap.size]? = some (.cells #[.int .i64 (sLo t row k), .int .i64 (sHi t row k)] 34 (0, 0))) (fun i _ => n - (intOf i).toNat)
    case atStart =>
      refine ⟨0, Nat.zero_le _, rfl, ?_, ?_⟩
      · repeat (first | exact Below.refl _ _ | refine below_set ?_ (by simp) _ _ | refine Below.alloc ?_ (by simp) _)
      · first
          | exact World.alloc_heap_new _ _
          | (refine (cells_set (cells_set (World.alloc_heap_new _ _) 0 _) 1 _).trans ?_; simp [sLo, sHi])
    case round =>
      obtain ⟨k, hk, rfl, hb3, hs⟩ := hrel
      have h0 : wr.cell? ⟨w2.heap.size, 0, none⟩ = some (.int .i64 (sLo t row k)) := by simp [World.cell?, hs]
      have h1 : wr.cell? ⟨w2.heap.size, 1, none⟩ = some (.int .i64 (sHi t row k)) := by simp [World.cell?, hs]
      have hfz : ∀ o, wr.frozen? ⟨w2.heap.size, o, none⟩ = false := by intro o; simp [World.frozen?, hs]
      have ht4 : wr.cell? ⟨w.heap.size, 1, none⟩ = some (.int .i64 t) := (hb3.cell (p := ⟨w.heap.size, 1, none⟩) (show w.heap.size < w2.heap.size by omega)).trans ht2
      have HS := hid hs
      clear hs ht2
      by_cases hlt : k < n
      · have HKL := hid (show k < row.length by rw [HN.out]; exact hlt)
        obtain ⟨b, off, rfl, hbs, hc⟩ := (HH.out.below (chain hbw2 hb3)) k HKL.out
        have hl := sLo_bd t0 t3 row k
        have hh := sHi_bd t0 t3 row k
        have e1 := hid (show sLo t row (k + 1) = sLo t row k - (if row[k]?.getD 0 < 0 then t else 0) from rfl)
        have e2 := hid (show sHi t row (k + 1) = sHi t row k + (if 0 < row[k]?.getD 0 then t else 0) from rfl)
        go_wp2
        all_goals
          refine ⟨⟨k + 1, by omega, by go_num, ?_, ?_⟩, by simp [intOf]; omega⟩
          · repeat (first | exact hb3 | refine below_set ?_ (Nat.le_refl _) _ _ | refine Below.drew ?_)
          · first
              | (have q1 : sLo t row (k + 1) = sLo t row k := (by rw [e1.out, if_neg (by omega)]; omega); have q2 : sHi t row (k + 1) = sHi t row k + t := (by rw [e2.out, if_pos (by omega)]); refine (cells_set HS.out 1 _).trans ?_; rw [q1, q2]; rfl)
              | (have q1 : sLo t row (k + 1) = sLo t row k - t := (by rw [e1.out, if_pos (by omega)]); have q2 : sHi t row (k + 1) = sHi t row k := (by rw [e2.out, if_neg (by omega)]; omega); refine (cells_set HS.out 0 _).trans ?_; rw [q1, q2]; rfl)
              | (have q1 : sLo t row (k + 1) = sLo t row k := (by rw [e1.out, if_neg (by omega)]; omega); have q2 : sHi t row (k + 1) = sHi t row k := (by rw [e2.out, if_neg (by omega)]; omega); refine HS.out.trans ?_; rw [q1, q2])
      · obtain rfl : k = n := by omega
        have hq3 : wr.heap[w.heap.size + 1]? = some (.cells #[.int .i64 0, .int .i64 0] 34 (0, 0)) := (hb3.block _ (by omega)).trans HQ2.out
        have g0 : wr.cell? ⟨w.heap.size + 1, 0, none⟩ = some (.int .i64 0) := by simp [World.cell?, hq3]
        have g1 : wr.cell? ⟨w.heap.size + 1, 1, none⟩ = some (.int .i64 0) := by simp [World.cell?, hq3]
        have gf : ∀ o, wr.frozen? ⟨w.heap.size + 1, o, none⟩ = false := by intro o; simp [World.frozen?, hq3]
        have hbE : Below w.heap.size w ((wr.setCell ⟨w.heap.size + 1, 0, none⟩ (.int .i64 (sLo t row k))).setCell ⟨w.heap.size + 1, 1, none⟩ (.int .i64 (sHi t row k))) := below_set (below_set (chain hbw2 hb3) (by omega) _ _) (by omega) _ _
        have HBE := hid hbE
        have HH2 := hid (cells_set (cells_set hq3 0 (.int .i64 (sLo t row k))) 1 (.int .i64 (sHi t row k)))
        clear hq3 hbE
        go_wp2
        have r0 : ((wr.setCell ⟨w.heap.size + 1, 0, none⟩ (.int .i64 (sLo t row k))).setCell ⟨w.heap.size + 1, 1, none⟩ (.int .i64 (sHi t row k))).cell? ⟨w.heap.size + 1, 0, none⟩ = some (.int .i64 (sLo t row k)) := by simp only [World.cell?, HH2.out]; simp
        have r1 : ((wr.setCell ⟨w.heap.size + 1, 0, none⟩ (.int .i64 (sLo t row k))).setCell ⟨w.heap.size + 1, 1, none⟩ (.int .i64 (sHi t row k))).cell? ⟨w.heap.size + 1, 1, none⟩ = some (.int .i64 (sHi t row k)) := by simp only [World.cell?, HH2.out]; simp
        refine bodyPost_ret (v := .tuple #[.agg #[.int .i64 (sLo t row k), .int .i64 (sHi t row k)], .int .i64 0]) ?_ rfl ⟨by rw [HLo.out, HHi.out, HN.out]; simp, HBE.out⟩
        simp [results, Try.results18, go_sem, r0, r1]
  · subst h
    clear hz0
    go_enter Try.func18, Try.ntmps18
    go_wp2_with (first | (go_at_call 55; refine (HV.out _ hb0).mono ?_; rintro e w2 ⟨rfl, hb2⟩; rw [← HE.out]; obtain ⟨hc2, hf2⟩ := bcell hb2))
    have hz2 : w.heap.size + 1 < w2.heap.size := by have := hb2.size; simp at this; omega
    refine bodyPost_ret (v := .tuple #[.agg #[.int .i64 0, .int .i64 0], .int .i64 1]) ?_ rfl ⟨by rw [HLo.out, HHi.out]; simp, ?_⟩
    · simp [results, Try.results18, go_sem, hc2, hz2]
    · exact below_set (below_set (chain hb0 hb2) (by omega) _ _) (by omega) _ _

/-- how many pictures a field has -/
def cntP (p t : Int) : Int := if okField p t then (((t.toNat + 1) ^ p.toNat : Nat) : Int) else 0
def fieldE (p t : Int) : Int := if okField p t then 0 else 1

theorem picturesP_c (w : World) (p t : Int) :
    Calls Try.prog 13 #[.agg #[.int .i64 p, .int .i64 t]] w fun e w' => e = .returned (.tuple #[.int .i64 (cntP p t), .int .i64 (fieldE p t)]) ∧ Below w.heap.size w w' := by
  have hb0 : Below w.heap.size w (w.alloc (.cells #[.int .i64 p, .int .i64 t] 23)) := (Below.refl _ _).alloc (Nat.le_refl _) _
  cases hf : okField p t
  · have e1 : cntP p t = 0 := by simp [cntP, hf]
    have e2 : fieldE p t = 1 := by simp [fieldE, hf]
    rw [e1, e2]
    clear e1 e2
    go_enter Try.func13, Try.ntmps13
    go_wp2_with (go_at_call 19; refine (validField_c _ _ _).mono ?_; rintro e w1 ⟨rfl, hb1⟩; obtain ⟨hc1, hf1⟩ := bcell hb1)
    go_ret2
    exact ⟨rfl, chain hb0 hb1⟩
  · obtain ⟨p1, p8, t0, t3⟩ := okField_bd hf
    obtain ⟨P, rfl⟩ := Int.eq_ofNat_of_zero_le (show 0 ≤ p by omega)
    obtain ⟨T, rfl⟩ := Int.eq_ofNat_of_zero_le t0
    have e1 : cntP (P : Int) (T : Int) = (((T + 1) ^ P : Nat) : Int) := by simp [cntP, hf]
    have e2 : fieldE (P : Int) (T : Int) = 0 := by simp [fieldE, hf]
    rw [e1, e2]
    clear e1 e2
    go_enter Try.func13, Try.ntmps13
    go_wp2_with (go_at_call 19; refine (validField_c _ _ _).mono ?_; rintro e w1 ⟨rfl, hb1⟩; obtain ⟨hc1, hf1⟩ := bcell hb1)
    have hz1 : w.heap.size < w1.heap.size := by have := hb1.size; simp at this; omega
    have ht1 : w1.cell? ⟨w.heap.size, 1, none⟩ = some (.int .i64 (T : Int)) := by rw [hc1 _ _ (by simp), World.cell?_alloc_at _ _ _ _ rfl]; rfl
    have hbw : Below w.heap.size w w1 := chain hb0 hb1
    clear hc1 hf1
    go_loop [4, 10] (fun n i => ∃ k : Nat, k ≤ P ∧ i = .int .i64 k ∧ n = .int .i64 (((T + 1) ^ k : Nat) : Int)) (fun _ i => P - (intOf i).toNat)
    case atStart => exact ⟨0, Nat.zero_le _, rfl, by simp⟩
    case round =>
      obtain ⟨k, hk, rfl, rfl⟩ := hrel
      have hpw := pow_le (p := k) (t := T) (by omega) (by omega)
      by_cases hlt : k < P
      · have e3 : wrap64 ((((T + 1) ^ k : Nat) : Int) * ((T : Int) + 1)) = (((T + 1) ^ (k + 1) : Nat) : Int) := by
          have h2 := pow_le (p := k + 1) (t := T) (by omega) (by omega)
          have h1 : (((T + 1) ^ k : Nat) : Int) * ((T : Int) + 1) = (((T + 1) ^ (k + 1) : Nat) : Int) := by rw [Nat.pow_succ]; simp
          rw [h1]; generalize (T + 1) ^ (k + 1) = y at *; unfold wrap64; omega
        have HE3 := hid e3
        clear e3
        obtain ⟨Y, hY⟩ : ∃ Y : Nat, Y = (T + 1) ^ k := ⟨_, rfl⟩
        obtain ⟨Z, hZ⟩ : ∃ Z : Nat, Z = (T + 1) ^ (k + 1) := ⟨_, rfl⟩
        rw [← hY, ← hZ] at HE3
        rw [← hY] at hpw ⊢
        have HY := hid hY
        have HZ := hid hZ
        clear hY hZ
        go_wp2
        go_round
        case rel => exact ⟨k + 1, by omega, by go_num, by rw [← HZ.out, ← HE3.out]⟩
        case measure => simp [intOf]; omega
      · obtain rfl : k = P := by omega
        go_wp2
        go_ret2
        exact ⟨rfl, hbw⟩
end Go.Proofs.Ytdcflpfaaeijoaa

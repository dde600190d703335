/- The iterator of package fault over the faults of a mask. -/
import Derived.Test.YthaampmdponhbaaGreatDoorFltJ
import Derived.Test.YthaampmdponhbaaGreatDoorRangeV
import Derived.Sort.QuietIn
import Derived.Sort.LoopGhostIn
import Derived.Sort.CutIn
namespace Go.Proofs.YthaampmdponhbaaGreatDoor
open Go.RowKit
set_option linter.unusedVariables false
attribute [local go_sem] Oper.semAt_some

/-- candidate number t: kinds, then rows, then pixels -/
def candF (n c t : Nat) : Flt := ⟨(t / (n * c) : Nat), (t / c % n : Nat), (t % c : Nat)⟩
def everyTo (M : Mask) (t : Nat) : List Flt := ((List.range t).map (candF M.length (colsM M))).filter (okF M)
/-- all faults of a mask, in their order -/
def everyF (M : Mask) : List Flt := everyTo M (4 * (M.length * colsM M))

theorem candF_at {n c k i j : Nat} (hi : i < n) (hj : j < c) : candF n c ((k * n + i) * c + j) = ⟨k, i, j⟩ := by
  have h1 : ((k * n + i) * c + j) / c = k * n + i := by
    rw [Nat.mul_comm, Nat.mul_add_div (by omega), Nat.div_eq_of_lt hj]; rfl
  have h2 : ((k * n + i) * c + j) % c = j := by
    rw [Nat.mul_comm, Nat.mul_add_mod, Nat.mod_eq_of_lt hj]
  have h3 : (k * n + i) % n = i := by rw [Nat.mul_comm, Nat.mul_add_mod, Nat.mod_eq_of_lt hi]
  have h4 : ((k * n + i) * c + j) / (n * c) = k := by
    rw [Nat.mul_comm n c, ← Nat.div_div_eq_div_mul, h1, Nat.mul_comm, Nat.mul_add_div (by omega), Nat.div_eq_of_lt hi]; rfl
  unfold candF
  rw [h4, h1, h2, h3]

theorem everyTo_succ (M : Mask) {k i j : Nat} (hi : i < M.length) (hj : j < colsM M) :
    everyTo M ((k * M.length + i) * colsM M + (j + 1)) = everyTo M ((k * M.length + i) * colsM M + j) ++ (if okF M ⟨k, i, j⟩ then [⟨k, i, j⟩] else []) := by
  unfold everyTo
  rw [← Nat.add_assoc, List.range_succ, List.map_append, List.filter_append]
  simp only [List.map_cons, List.map_nil]
  rw [candF_at hi hj]
  cases h : okF M ⟨k, i, j⟩ <;> simp [h]

theorem everyTo_prefix (M : Mask) {s t : Nat} (h : s ≤ t) : everyTo M s <+: everyTo M t := by
  unfold everyTo
  obtain ⟨d, rfl⟩ := Nat.exists_eq_add_of_le h
  rw [List.range_add, List.map_append, List.filter_append]
  exact List.prefix_append _ _

theorem index_lt {n c k i j : Nat} (hk : k < 4) (hi : i < n) (hj : j < c) : (k * n + i) * c + (j + 1) ≤ 4 * (n * c) := by
  have h1 : (k * n + i) * c + (j + 1) ≤ (k * n + i + 1) * c := by rw [Nat.add_mul (k * n + i) 1 c]; omega
  have h2 : k * n + i + 1 ≤ 4 * n := by
    have : k * n + n ≤ 4 * n := by
      have := Nat.mul_le_mul (show k + 1 ≤ 4 by omega) (Nat.le_refl n)
      rw [Nat.add_mul] at this; omega
    omega
  calc (k * n + i) * c + (j + 1) ≤ (k * n + i + 1) * c := h1
    _ ≤ (4 * n) * c := Nat.mul_le_mul h2 (Nat.le_refl c)
    _ = 4 * (n * c) := Nat.mul_assoc _ _ _

theorem frame_keep {w0 wr w1 : World} {p : Nat → Prop} (hp : ∀ q, p q → q < w0.heap.size) (hfr : ∀ q, p q → wr.heap[q]? = w0.heap[q]?) (hb : Below wr.heap.size wr w1) : ∀ q, p q → w1.heap[q]? = w0.heap[q]? := by
  intro q hq
  have h1 := hfr q hq
  have h2 := hp q hq
  have h3 : q < wr.heap.size := by
    rcases Nat.lt_or_ge q wr.heap.size with h4 | h4
    · exact h4
    · rw [Array.getElem?_eq_none h4, Array.getElem?_eq_getElem h2] at h1; cases h1
  rw [hb.block q h3]; exact h1

set_option maxRecDepth 100000 in
set_option maxHeartbeats 4000000 in
theorem iter_faults (w0 : World) (fb : Nat) (a : Option Addr) (n cap : Nat) (M : Mask) (hn : M.length = n) (H : RowsAt w0 a M) (hM : okM M = true) (hfb : fb < w0.heap.size) (hf : w0.cell? ⟨fb, 0, none⟩ = some (.slice a n cap)) (N : Nat) (hN : N ≤ w0.heap.size) (HN : Below N w0 w0) (hold : ∀ W, (∀ k, k < N ∨ k = fb → W.heap[k]? = w0.heap[k]?) → RowsAt W a M) :
    IterVals Tryz.prog 126 #[.pointer (some ⟨fb, 0, none⟩)] ((everyF M).map Flt.val) (fun k => k < N ∨ k = fb) w0 := by
  intro l J Jx W hb hJ hY h0
  obtain ⟨m1, m6, c1, c10, hrows⟩ := okM_len hM
  have hn6 : n ≤ 6 := by omega
  obtain ⟨c, hc⟩ : ∃ c, c = colsM M := ⟨_, rfl⟩
  have HJ := hid hJ
  have HY := hid hY
  have H0 := hid h0
  have HNN := hid hn
  have HC := hid hc
  have HM := hid hM
  have HW0 := hid (show ∀ k, k < N ∨ k = fb → W.heap[k]? = w0.heap[k]? from fun k hk => hb.block k (by rcases hk with h | rfl <;> omega))
  have HOld := hid hold
  have HFb := hid hfb
  have HFc := hid hf
  have HNw := hid hN
  rw [← hc] at c1 c10
  have HFP := hid (show ∀ q, (q < N ∨ q = fb) → q < w0.heap.size from fun q hq => by rcases hq with h | rfl <;> omega)
  clear hJ hY h0 hn hc hM hold hfb hf hN H hrows m1 m6 HN
  have hmk : ∀ (fn : Fn) (first cap : Array Value) (w : World), (Instr.makeFunc fn first cap).run Tryz.prog w = .ok (.func fn first cap) w := fun _ _ _ _ => rfl
  refine callsIn_of_wp Tryz.func126 rfl trivial ?_ rfl
  simp only [Tryz.ntmps126, List.size_toArray, List.length_cons, List.length_nil, Nat.reduceAdd, Nat.reduceSub, Array.replicate_succ, Array.replicate_zero, List.push_toArray, List.append_toArray, List.nil_append, List.cons_append]
  gi_wp2
  gi_loopw [7] (fun v wr => ∃ k : Nat, k ≤ 4 ∧ v = .int .i64 k ∧ J ((everyTo M (k * n * c)).map Flt.val) wr ∧ (∀ q, q < N ∨ q = fb → wr.heap[q]? = w0.heap[q]?)) (fun v _ => 4 - (intOf v).toNat)
  case atStart => exact ⟨0, by omega, rfl, by simpa [everyTo] using H0.out, HW0.out⟩
  case round =>
    obtain ⟨k, hk, rfl, hJk, hfr⟩ := hrel
    have hfc : wr.cell? ⟨fb, 0, none⟩ = some (.slice a n cap) := (World.cell?_of_block (a := ⟨fb, 0, none⟩) (hfr fb (.inr rfl))).trans HFc.out
    by_cases hk4 : k < 4
    · have hk4' : ((k : Int) < 4) := by omega
      obtain ⟨wk, hwk⟩ : ∃ wk, wk = wr := ⟨_, rfl⟩
      rw [← hwk] at hJk hfr hfc ⊢
      clear hwk
      have HJK := hid hJk
      have HFR := hid hfr
      clear hJk hfr
      gi_wp2
      gi_loopw [12] (fun v wr => ∃ i : Nat, i ≤ n ∧ v = .int .i64 i ∧ J ((everyTo M ((k * n + i) * c)).map Flt.val) wr ∧ (∀ q, q < N ∨ q = fb → wr.heap[q]? = w0.heap[q]?)) (fun v _ => n - (intOf v).toNat)
      case atStart => exact ⟨0, Nat.zero_le _, rfl, by simpa using HJK.out, HFR.out⟩
      case round =>
        obtain ⟨i, hi, rfl, hJi, hfr⟩ := hrel
        have hfc : wr.cell? ⟨fb, 0, none⟩ = some (.slice a n cap) := (World.cell?_of_block (a := ⟨fb, 0, none⟩) (hfr fb (.inr rfl))).trans HFc.out
        by_cases hin : i < n
        · obtain ⟨wi, hwi⟩ : ∃ wi, wi = wr := ⟨_, rfl⟩
          rw [← hwi] at hJi hfr hfc ⊢
          clear hwi
          obtain ⟨b, off, qa, qn, qc, rfl, hbs, hq0, hqn, hqm, hqi⟩ := (HOld.out wi hfr) 0 (by have := HNN.out; omega)
          simp only [Nat.add_zero] at hq0
          have hqc : qn = c := by rw [HC.out]; unfold colsM; rw [List.getElem?_eq_getElem (by have := HNN.out; omega), ← hqn]; rfl
          subst hqc
          have HJI := hid hJi
          have HFR := hid hfr
          clear hJi hfr hqn hqi
          have hn0 : 0 < n := by omega
          gi_wp2
          gi_loopw [19] (fun v wr => ∃ j : Nat, j ≤ qn ∧ v = .int .i64 j ∧ J ((everyTo M ((k * n + i) * qn + j)).map Flt.val) wr ∧ (∀ q, q < N ∨ q = fb → wr.heap[q]? = w0.heap[q]?)) (fun v _ => qn - (intOf v).toNat)
          case atStart => exact ⟨0, Nat.zero_le _, rfl, by simpa using HJI.out, HFR.out⟩
          case round =>
            obtain ⟨j, hj, rfl, hJj, hfr⟩ := hrel
            have hfc : wr.cell? ⟨fb, 0, none⟩ = some (.slice (some ⟨b, off, none⟩) n cap) := (World.cell?_of_block (a := ⟨fb, 0, none⟩) (hfr fb (.inr rfl))).trans HFc.out
            by_cases hjn : j < qn
            · have hsucc := everyTo_succ M (k := k) (i := i) (j := j) (by have := HNN.out; omega) (by have := HC.out; omega)
              have hpre := everyTo_prefix M (index_lt (n := M.length) (c := colsM M) hk4 (show i < M.length by have := HNN.out; omega) (show j < colsM M by have := HC.out; omega))
              rw [HNN.out, ← HC.out] at hsucc hpre
              obtain ⟨wf, hwf, hb0, hcells⟩ := fltBox wr ⟨k, i, j⟩
              obtain ⟨_, f0, f1, f2⟩ := hcells wf (Below.refl _ _)
              have hfcf : wf.cell? ⟨fb, 0, none⟩ = some (.slice (some ⟨b, off, none⟩) n cap) := (hb0.cell (p := ⟨fb, 0, none⟩) (World.block_lt_of_cell? wr ⟨fb, 0, none⟩ hfc)).trans hfc
              have HV := hid (fvalid_c wf (some ⟨b, off, none⟩) n cap M HNN.out ((HOld.out wr hfr).below hb0) HM.out ⟨k, i, j⟩)
              have HCells := hid hcells
              have HJJ := hid hJj
              have HFR2 := hid hfr
              have HB0 := hid hb0
              have HWF := hid hwf
              have HPre := hid hpre
              have HS := hid hsucc
              clear hJj hfr hcells hb0 hpre hsucc
              simp only [Flt.val] at HV
              cases hok : okF M ⟨k, i, j⟩
              · rw [hok] at HV
                have HOK := hid hok
                clear hok
                subst hwf
                gi_wp2_with (refine ⟨trivial, rfl, ?_⟩; gi_at_call 64; refine (callsIn_wide.2 HV.out).mono ?_; rintro e w1 ⟨rfl, hb1⟩; refine Stop.of ?_)
                refine Stop.go ?_
                gi_wp2
                refine ⟨fun _ h => (by cases h), ?_⟩
                gi_wp2
                have hbe := chain HB0.out hb1
                go_roundw
                case rel =>
                  refine ⟨j + 1, by omega, by go_num, ?_, frame_keep HFP.out HFR2.out hbe⟩
                  have h9 := HS.out
                  rw [HOK.out] at h9
                  simp only [Bool.false_eq_true, if_false, List.append_nil] at h9
                  rw [h9]
                  exact HJ.out _ _ _ HJJ.out hbe
                case measure => simp [intOf]; omega
              · rw [hok] at HV HS
                simp only [if_true] at HS
                subst hwf
                gi_wp2_with (refine ⟨trivial, rfl, ?_⟩; gi_at_call 64; refine (callsIn_wide.2 HV.out).mono ?_; rintro e w1 ⟨rfl, hb1⟩; refine Stop.of ?_)
                refine Stop.go ?_
                have hbe := chain HB0.out hb1
                have HFR1 := hid (frame_keep HFP.out HFR2.out hbe)
                obtain ⟨_, e0, e1, e2⟩ := HCells.out w1 hb1
                have hpx : (everyTo M ((k * n + i) * qn + j)).map Flt.val ++ [Flt.val ⟨k, i, j⟩] <+: (everyF M).map Flt.val := by
                  have := HPre.out
                  rw [HS.out] at this
                  have h2 := List.IsPrefix.map Flt.val this
                  unfold everyF
                  rw [HNN.out, ← HC.out]
                  simpa using h2
                have hyk := HY.out _ (Flt.val ⟨k, i, j⟩) w1 hpx (HJ.out _ _ _ HJJ.out hbe)
                have HPX := hid hpx
                have HJ9 := hid (show (everyTo M ((k * n + i) * qn + (j + 1))).map Flt.val = (everyTo M ((k * n + i) * qn + j)).map Flt.val ++ [Flt.val ⟨k, i, j⟩] by rw [HS.out, List.map_append]; rfl)
                clear hpx
                simp only [Flt.val] at hyk
                obtain ⟨fn, tmps, assign, body, hy, hR⟩ := hyk
                gi_wp2
                refine ⟨rfl, hR.mono ?_⟩
                clear hR hy
                rintro e W3 (⟨rfl, hJ3, hs3, hk3⟩ | ⟨rfl, hJx⟩)
                · gi_wp2
                  go_roundw
                  case rel =>
                    refine ⟨j + 1, by omega, by go_num, ?_, fun q hq => (hk3 q hq).trans (HFR1.out q hq)⟩
                    rw [HJ9.out]; exact hJ3
                  case measure => simp [intOf]; omega
                · gi_wp2
                  refine bodyPost_ret (results_none rfl _ _ _) rfl ?_
                  exact ⟨⟨_, rfl⟩, .inr ⟨_, HPX.out, hJx⟩⟩
            · obtain rfl : j = qn := by omega
              gi_wp2
              go_roundw
              case rel =>
                refine ⟨i + 1, by omega, by go_num, ?_, hfr⟩
                rw [show (k * n + (i + 1)) * j = (k * n + i) * j + j by rw [← Nat.add_assoc, Nat.add_mul]; omega]
                exact hJj
              case measure => simp [intOf]; omega
        · obtain rfl : i = n := by omega
          gi_wp2
          go_roundw
          case rel =>
            refine ⟨k + 1, by omega, by go_num, ?_, hfr⟩
            rw [Nat.add_mul k 1 i, Nat.one_mul]
            exact hJi
          case measure => simp [intOf]; omega
    · obtain rfl : k = 4 := by omega
      gi_wp2
      go_end0
      refine ⟨⟨_, rfl⟩, .inl ?_⟩
      unfold everyF
      rw [HNN.out, ← HC.out, ← Nat.mul_assoc]
      exact hJk
end Go.Proofs.YthaampmdponhbaaGreatDoor

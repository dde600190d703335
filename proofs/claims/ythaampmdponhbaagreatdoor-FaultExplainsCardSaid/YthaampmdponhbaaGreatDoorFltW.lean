/- Walks of the reference: every, SameFaults. -/
import Derived.Test.YthaampmdponhbaaGreatDoorFltV
namespace Go.Proofs.YthaampmdponhbaaGreatDoor
open Go.RowKit
set_option linter.unusedVariables false

theorem flt_newsA (w : World) (f : Flt) (T : TypeId) : ∀ ad, (some ⟨w.heap.size, 0, none⟩ : Option Addr) = some ad → ∀ j u, (fltCells f)[j]? = some u → (w.alloc (.cells (fltCells f).toArray T)).cell? (ad.add j) = some u := by
  intro ad e
  cases e
  exact flt_news w f T
theorem FltsO.snoc {W : World} {base n : Nat} {v : Value} {l : List Flt} {f : Flt} (hl : l.length = n) (h : W.ownsRow base 25 3 v (n + 1) (fltVals l ++ fltCells f)) : FltsO W base v (l ++ [f]) := by
  subst hl
  unfold FltsO
  rw [fltVals_snoc, List.length_append]
  exact h
theorem FltsO.slice {W : World} {base : Nat} {v : Value} {l : List Flt} (h : FltsO W base v l) : ∃ a c, v = .slice a l.length c := ownsRow_slice h

def turnsTo (i : Nat) (r : List Int) (k : Nat) : List Flt := ((List.range k).filter (fun j : Nat => !decide (r[j]?.getD 0 = 0))).map (fun j : Nat => ⟨3, (i : Int), (j : Int)⟩)
theorem turnsTo_succ (i : Nat) (r : List Int) (k : Nat) : turnsTo i r (k + 1) = turnsTo i r k ++ (if r[k]?.getD 0 = 0 then [] else [⟨3, (i : Int), (k : Int)⟩]) := by
  unfold turnsTo
  rw [List.range_succ, List.filter_append, List.map_append]
  congr 1
  by_cases h : r[k]?.getD 0 = 0 <;> simp [h]
theorem turnsTo_length (i : Nat) (r : List Int) (k : Nat) : (turnsTo i r k).length ≤ k := by
  unfold turnsTo
  rw [List.length_map]
  exact Nat.le_trans (List.length_filter_le _ _) (by simp)

set_option maxHeartbeats 4000000 in
set_option maxRecDepth 100000 in
theorem refEvery_c (w : World) (a : Option Addr) (n cap : Nat) (M : Mask) (hn : M.length = n) (H : RowsAt w a M) (hM : okM M = true) :
    Calls Tryz.prog 103 #[.slice a n cap] w fun e w' => ∃ v base, e = .returned v ∧ w.heap.size ≤ base ∧ FltsO w' base v (listF M) ∧ Below w.heap.size w w' := by
  obtain ⟨m1, m6, c1, c10, hrows⟩ := okM_len hM
  obtain ⟨b, off, qa, qn, qc, rfl, hbs, hq0, hqn, hqm, hqi⟩ := H 0 (by omega)
  simp only [Nat.add_zero] at hq0
  have hcols : colsM M = qn := by unfold colsM; rw [List.getElem?_eq_getElem (by omega), ← hqn]; rfl
  have HCO := hid hcols
  have HR := hid hrows
  have HN := hid hn
  have HH := hid H
  have hq1 : 1 ≤ qn := by omega
  have hq10 : qn ≤ 10 := by omega
  have hn6 : n ≤ 6 := by omega
  have hn1 : 1 ≤ n := by omega
  obtain ⟨w0, hw0⟩ : ∃ w0, w0 = w.alloc (.cells #[.int .i64 0, .int .i64 0, .int .i64 0] 25) := ⟨_, rfl⟩
  have hb0 : Below w.heap.size w w0 := by rw [hw0]; exact (Below.refl _ _).alloc (Nat.le_refl _) _
  have ho0 : FltsO w0 w.heap.size (.slice (some ⟨w.heap.size, 0, none⟩) 1 1) [⟨0, 0, 0⟩] := by
    rw [hw0]
    exact ⟨rfl, .inr ⟨w.heap.size, 1, #[.int .i64 0, .int .i64 0, .int .i64 0], rfl, Nat.le_refl _, World.alloc_heap_new w _, Nat.le_refl _, by unfold maxLen; omega, rfl, rfl⟩⟩
  have HB0 := hid hb0
  have HO0 := hid ho0
  have HW0 := hid hw0
  clear hcols hrows hn H hM m1 m6 c1 c10 hqn hqm hqi hb0 ho0 hw0
  go_enter Tryz.func103, Tryz.ntmps103
  go_wp2
  rw [← HW0.out]
  go_loopw [3, 14] (fun v i wr => ∃ (k : Nat) (l : List Flt), k ≤ n ∧ i = .int .i64 k ∧ FltsO wr w.heap.size v l ∧ l.length ≤ 1 + k ∧ Hid (l = [⟨0, 0, 0⟩] ++ (List.range k).map (fun i : Nat => ⟨1, (i : Int), 0⟩)) ∧ Below w.heap.size w wr) (fun _ i _ => n - (intOf i).toNat)
  case atStart => exact ⟨0, _, Nat.zero_le _, rfl, HO0.out, Nat.le_refl _, hid rfl, HB0.out⟩
  case round =>
    obtain ⟨k, l, hk, rfl, hF, hll, hl, hbk⟩ := hrel
    by_cases hlt : k < n
    · obtain ⟨va, vc, rfl⟩ := hF.slice
      obtain ⟨L, hL⟩ : ∃ L, L = l.length := ⟨_, rfl⟩
      have HL := hid hL
      have HF := hid (show wr.ownsRow w.heap.size 25 3 (.slice va L vc) L (fltVals l) by rw [hL]; exact hF)
      have HBK := hid hbk
      rw [← hL] at hll ⊢
      have M1 := hid (show L + 1 ≤ maxLen by unfold maxLen; omega)
      have M2 := hid (show (L + 1) * 24 ≤ 140737488355328 by omega)
      have M3 := hid (show w.heap.size ≤ (wr.alloc (.cells (fltCells ⟨1, (k : Int), 0⟩).toArray 25)).heap.size by have := hbk.size; simp; omega)
      clear hF hbk hL
      go_wp2_with (at_builtin; refine wpList_app _ rfl (.tmp 17) (.tmp 20) 36 rfl w.heap.size 25 (.agg #[.int .i64 0, .int .i64 0, .int .i64 0]) 3 24 Tryz.underlying36 info_fault rfl (by decide) (.slice va L vc) L _ rfl (HF.out.alloc _) (some ⟨wr.heap.size, 0, none⟩) 1 1 (fltCells ⟨1, (k : Int), 0⟩) rfl rfl no_none (flt_newsA wr ⟨1, (k : Int), 0⟩ _) (flt_one _) M1.out M2.out M3.out ?_; refine Stop.of ?_)
      refine Stop.go ?_
      intro a3 c3 w3 own3 g3
      have hb3 : Below w.heap.size w w3 := (HBK.out.alloc HBK.out.size _).grown g3 M3.out (fun q hq => (HF.out.lt q hq).1)
      go_wp2
      refine ⟨⟨k + 1, _, by omega, by go_num, FltsO.snoc HL.out.symm own3, by rw [List.length_append, ← HL.out]; simp; omega, hid ?_, hb3⟩, by simp [intOf]; omega⟩
      rw [hl.out, List.range_succ, List.map_append, List.append_assoc]; rfl
    · obtain rfl : k = n := by omega
      obtain ⟨A, hA⟩ : ∃ A, A = l := ⟨_, rfl⟩
      subst hA
      have hc1 : wr.cell? ⟨b, off, none⟩ = some (.slice qa qn qc) := (hbk.cell (p := ⟨b, off, none⟩) hbs).trans hq0
      go_wp2
      go_loopw [3, 27] (fun v i wr => ∃ (j : Nat) (l : List Flt), j ≤ qn ∧ i = .int .i64 j ∧ FltsO wr w.heap.size v l ∧ l.length ≤ 1 + k + j ∧ Hid (l = A ++ (List.range j).map (fun i : Nat => ⟨2, 0, (i : Int)⟩)) ∧ Below w.heap.size w wr) (fun _ i _ => qn - (intOf i).toNat)
      case atStart => exact ⟨0, A, Nat.zero_le _, rfl, hF, by omega, hid (by simp), hbk⟩
      case round =>
        clear hc1 hF hbk hll
        obtain ⟨j, l, hj, rfl, hF, hll, hl2, hbk⟩ := hrel
        by_cases hlt : j < qn
        · obtain ⟨va, vc, rfl⟩ := hF.slice
          obtain ⟨L, hL⟩ : ∃ L, L = l.length := ⟨_, rfl⟩
          have HL := hid hL
          have HF := hid (show wr.ownsRow w.heap.size 25 3 (.slice va L vc) L (fltVals l) by rw [hL]; exact hF)
          have HBK := hid hbk
          rw [← hL] at hll ⊢
          have M1 := hid (show L + 1 ≤ maxLen by unfold maxLen; omega)
          have M2 := hid (show (L + 1) * 24 ≤ 140737488355328 by omega)
          have M3 := hid (show w.heap.size ≤ (wr.alloc (.cells (fltCells ⟨2, 0, (j : Int)⟩).toArray 25)).heap.size by have := hbk.size; simp; omega)
          clear hF hbk hL
          go_wp2_with (at_builtin; refine wpList_app _ rfl (.tmp 30) (.tmp 33) 36 rfl w.heap.size 25 (.agg #[.int .i64 0, .int .i64 0, .int .i64 0]) 3 24 Tryz.underlying36 info_fault rfl (by decide) (.slice va L vc) L _ rfl (HF.out.alloc _) (some ⟨wr.heap.size, 0, none⟩) 1 1 (fltCells ⟨2, 0, (j : Int)⟩) rfl rfl no_none (flt_newsA wr ⟨2, 0, (j : Int)⟩ _) (flt_one _) M1.out M2.out M3.out ?_; refine Stop.of ?_)
          refine Stop.go ?_
          intro a3 c3 w3 own3 g3
          have hb3 : Below w.heap.size w w3 := (HBK.out.alloc HBK.out.size _).grown g3 M3.out (fun q hq => (HF.out.lt q hq).1)
          go_wp2
          refine ⟨⟨j + 1, _, by omega, by go_num, FltsO.snoc HL.out.symm own3, by rw [List.length_append, ← HL.out]; simp; omega, hid ?_, hb3⟩, by simp [intOf]; omega⟩
          rw [hl2.out, List.range_succ, List.map_append, List.append_assoc]; rfl
        · obtain rfl : j = qn := by omega
          obtain ⟨B, hB⟩ : ∃ B, B = l := ⟨_, rfl⟩
          subst hB
          go_wp2
          go_loopw [3, 38] (fun v i wr => ∃ (i' : Nat) (l : List Flt), i' ≤ k ∧ i = .int .i64 i' ∧ FltsO wr w.heap.size v l ∧ l.length ≤ 1 + k + j + 10 * i' ∧ Hid (l = B ++ (List.range i').flatMap (fun i : Nat => turnsF M i (M[i]?.getD []))) ∧ Below w.heap.size w wr) (fun _ i _ => k - (intOf i).toNat)
          case atStart => exact ⟨0, B, Nat.zero_le _, rfl, hF, by omega, hid (by simp), hbk⟩
          case round =>
            clear hF hbk hll
            obtain ⟨i, C, hi, rfl, hF, hll, hl3, hbk⟩ := hrel
            by_cases hlt : i < k
            · have hiM : i < M.length := by rw [HN.out]; exact hlt
              obtain ⟨b1, off1, ra, rn, rc, e1, hbs1, hri0, hrn, hrm, hrI⟩ := HH.out i hiM
              cases e1
              have hri0 : wr.cell? ⟨b, off + i, none⟩ = some (.slice ra rn rc) := (hbk.cell (p := ⟨b, _, none⟩) hbs1).trans hri0
              have hrl := (HR.out M[i] (List.getElem_mem hiM)).1
              have htf : turnsF M i (M[i]?.getD []) = turnsTo i M[i] rn := by rw [List.getElem?_eq_getElem hiM, ← hrn]; rfl
              obtain ⟨r, hr⟩ : ∃ r, r = M[i] := ⟨_, rfl⟩
              rw [← hr] at hrn hrI hrl htf
              have hrn10 : rn ≤ 10 := by have := HCO.out; omega
              have HRN := hid hrn
              have HRI := hid hrI
              have HTF := hid htf
              have HWB := hid hbk
              obtain ⟨wo, hwo⟩ : ∃ wo, wo = wr := ⟨_, rfl⟩
              subst hwo
              clear hrn hrI hrl htf hr hiM hrm
              go_wp2
              go_loopw [3, 45] (fun v i' wr => ∃ (s : Nat) (l : List Flt), s ≤ rn ∧ i' = .int .i64 s ∧ FltsO wr w.heap.size v l ∧ l.length ≤ 1 + k + j + 10 * i + s ∧ Hid (l = C ++ turnsTo i r s) ∧ Below w.heap.size w wr) (fun _ i' _ => rn - (intOf i').toNat)
              case atStart => exact ⟨0, C, Nat.zero_le _, rfl, hF, by omega, hid (by simp [turnsTo]), hbk⟩
              case round =>
                clear hF hbk hll
                obtain ⟨s, l, hs, rfl, hF, hll, hl4, hbk⟩ := hrel
                by_cases hlt : s < rn
                · obtain ⟨b2, off2, rfl, hbs2, hc2⟩ := HRI.out s (by rw [HRN.out]; exact hlt)
                  have hc2 := (hbk.cell (p := ⟨b2, _, none⟩) hbs2).trans hc2
                  have hts := turnsTo_succ i r s
                  obtain ⟨X, hX⟩ : ∃ X, X = r[s]?.getD 0 := ⟨_, rfl⟩
                  rw [← hX] at hts hc2
                  have HTS := hid hts
                  clear hts hX
                  by_cases hx : X = 0
                  · subst hx
                    go_wp2
                    refine ⟨⟨s + 1, l, by omega, by go_num, hF, by omega, hid ?_, hbk⟩, by simp [intOf]; omega⟩
                    rw [HTS.out, hl4.out]; simp
                  · have hx2 : (X != 0) = true := by simpa using hx
                    have HX := hid hx
                    clear hx
                    obtain ⟨va, vc, rfl⟩ := hF.slice
                    obtain ⟨L, hL⟩ : ∃ L, L = l.length := ⟨_, rfl⟩
                    have HL := hid hL
                    have HF := hid (show wr.ownsRow w.heap.size 25 3 (.slice va L vc) L (fltVals l) by rw [hL]; exact hF)
                    have HBK := hid hbk
                    rw [← hL] at hll ⊢
                    have M1 := hid (show L + 1 ≤ maxLen by unfold maxLen; omega)
                    have M2 := hid (show (L + 1) * 24 ≤ 140737488355328 by omega)
                    have M3 := hid (show w.heap.size ≤ (wr.alloc (.cells (fltCells ⟨3, (i : Int), (s : Int)⟩).toArray 25)).heap.size by have := hbk.size; simp; omega)
                    clear hF hbk hL
                    go_wp2_with (at_builtin; refine wpList_app _ rfl (.tmp 52) (.tmp 56) 36 rfl w.heap.size 25 (.agg #[.int .i64 0, .int .i64 0, .int .i64 0]) 3 24 Tryz.underlying36 info_fault rfl (by decide) (.slice va L vc) L _ rfl (HF.out.alloc _) (some ⟨wr.heap.size, 0, none⟩) 1 1 (fltCells ⟨3, (i : Int), (s : Int)⟩) rfl rfl no_none (flt_newsA wr ⟨3, (i : Int), (s : Int)⟩ _) (flt_one _) M1.out M2.out M3.out ?_; refine Stop.of ?_)
                    refine Stop.go ?_
                    intro a3 c3 w3 own3 g3
                    have hb3 : Below w.heap.size w w3 := (HBK.out.alloc HBK.out.size _).grown g3 M3.out (fun q hq => (HF.out.lt q hq).1)
                    go_wp2
                    refine ⟨⟨s + 1, _, by omega, by go_num, FltsO.snoc HL.out.symm own3, by rw [List.length_append, ← HL.out]; simp; omega, hid ?_, hb3⟩, by simp [intOf]; omega⟩
                    rw [HTS.out, if_neg HX.out, hl4.out, List.append_assoc]
                · obtain rfl : s = rn := by omega
                  go_wp2
                  refine ⟨⟨i + 1, l, by omega, by go_num, hF, by omega, hid ?_, hbk⟩, by simp [intOf]; omega⟩
                  rw [List.range_succ, List.flatMap_append, ← List.append_assoc, ← hl3.out, hl4.out]
                  simp [HTF.out]
            · obtain rfl : i = k := by omega
              go_wp2
              go_ret
              refine ⟨_, w.heap.size, rfl, Nat.le_refl _, ?_, hbk⟩
              have e : C = listF M := by
                rw [hl3.out, hl2.out, hl.out]; unfold listF; rw [HN.out, HCO.out]
              rw [← e]; exact hF
end Go.Proofs.YthaampmdponhbaaGreatDoor

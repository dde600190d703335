/- Walks and plain laws for FaultFewestRow, part 4. -/
import Derived.Maps.RangeWalk
import Derived.IntWalk
import Derived.Laws.BitsLemmas
import Derived.Lib.SliceRun
import Derived.ArgAppend
import Derived.Test.YthaampmdponhbaaDoorPkFaultFewestRow3
namespace Go.Proofs.YthaampmdponhbaaDoor
open Go.RowKit
set_option linter.unusedVariables false

theorem region_cut {P : Program} {c : Code} {Q : Exit → Act → World → Prop} {a : Act} {w : World} (R : Act → Act → World → Prop) (h1 : c.wp P (fun e a' w' => e = .normal ∧ R a a' w') a w) (h2 : ∀ a' w', R a a' w' → Q .normal a' w') : c.wp P Q a w :=
  Code.wp_mono (fun e a' w' ⟨he, hr⟩ => by subst he; exact h2 a' w' hr) h1

theorem AnyT.next2 {P : Program} {md : Region.Mode} {ops : Array Oper} {Q : Exit → Act → World → Prop} {T : Nat → World → Prop} {i j : Nat} {fuel : Nat} {listed : Array Bool} {a : Act} {w : World} (hr : Region.ready md ops listed = [i, j])
    (h1 : wpOp P ops Q i (fun a' w' => T i w' ∧ AnyT P md ops Q T fuel (listed.setIfInBounds i true) a' w') a w)
    (h2 : wpOp P ops Q j (fun a' w' => T j w' ∧ AnyT P md ops Q T fuel (listed.setIfInBounds j true) a' w') a w) : AnyT P md ops Q T (fuel + 1) listed a w :=
  ⟨fun h0 => (by rw [hr] at h0; cases h0), fun k hk => by
    rw [hr] at hk
    have : k = i ∨ k = j := by simpa using hk
    rcases this with rfl | rfl
    · exact h1
    · exact h2⟩

set_option maxHeartbeats 1000000 in
theorem sameMask_c (w : World) (a a2 : Option Addr) (n cap n2 cap2 : Nat) (A B : Mask) (hn : A.length = n) (hn2 : B.length = n2) (hm : n ≤ maxLen) (hm2 : n2 ≤ maxLen) (H : RowsAt w a A) (H2 : RowsAt w a2 B) :
    Calls Tryd.prog 31 #[.slice a n cap, .slice a2 n2 cap2] w fun e w' => e = .returned (.bool (decide (A = B))) ∧ ∃ k, w' = w.drewN k := by
  have HN := hid hn
  have HN2 := hid hn2
  have HH := hid H
  have HH2 := hid H2
  clear hn hn2 H H2
  unfold maxLen at hm hm2
  by_cases hl : n = n2
  · have hd : ((n : Int) != (n2 : Int)) = false := by simp [hl]
    have HL := hid hl
    clear hl
    go_enter Tryd.func31, Tryd.ntmps31
    go_wp2
    go_loopw [13] (fun i wr => ∃ k : Nat, k ≤ n ∧ i = .int .i64 k ∧ (∃ q, wr = w.drewN q) ∧ ∀ j (hj : j < A.length) (hj2 : j < B.length), j < k → A[j] = B[j]) (fun i _ => n - (intOf i).toNat)
    case atStart => exact ⟨0, Nat.zero_le _, rfl, ⟨0, rfl⟩, fun i _ _ h => by omega⟩
    case round =>
      obtain ⟨k, hk, rfl, hq, hno⟩ := hrel
      have hbw : Below w.heap.size w wr := by obtain ⟨q, rfl⟩ := hq; exact below_drewN (Below.refl _ _) q
      have HQ := hid hq
      have HNO := hid hno
      clear hno hq
      by_cases hlt : k < n
      · have hkl : k < A.length := by rw [HN.out]; exact hlt
        have hkl2 : k < B.length := by rw [HN2.out, ← HL.out]; exact hlt
        obtain ⟨b, off, ra, rn, rc, rfl, hbs, hc, hrn, hrm, hri⟩ := (HH.out.below hbw) k hkl
        obtain ⟨b', off', ra', rn', rc', rfl, hbs', hc', hrn', hrm', hri'⟩ := (HH2.out.below hbw) k hkl2
        have HI := hid (fun q2 => sameInts_c (wr.drewN q2) ra ra' rn rc rn' rc' A[k] B[k] hrn hrn' hrm hrm' (hri.below (below_drewN (Below.refl _ _) q2)) (hri'.below (below_drewN (Below.refl _ _) q2)))
        have hlt2 : k < n2 := by have := HL.out; omega
        have HKL := hid hkl
        have HKL2 := hid hkl2
        clear hri hri' hrn hrn'
        by_cases he : A[k] = B[k]
        · have HE := hid he
          have HS := hid (fun q2 => (HI.out q2).mono fun e w' ⟨h1, h2⟩ => show e = Ending.returned (.bool true) ∧ ∃ k, w' = (wr.drewN q2).drewN k from ⟨h1.trans (ret_bool (decide_eq_true he)), h2⟩)
          clear he HI
          go_wp2
          go_quiet ((go_at_call 12; exact Calls.quiet_of (HS.out _)))
          go_wp2
          refine ⟨⟨k + 1, by omega, by go_num, (by obtain ⟨q, e⟩ := HQ.out; exact ⟨_, by rw [e, drewN_add]⟩), fun j hj hj2 hjk => ?_⟩, by simp [intOf]; omega⟩
          by_cases e : j = k
          · subst e; exact HE.out
          · exact HNO.out j hj hj2 (by omega)
        · have HE := hid he
          have HS := hid (fun q2 => (HI.out q2).mono fun e w' ⟨h1, h2⟩ => show e = Ending.returned (.bool false) ∧ ∃ k, w' = (wr.drewN q2).drewN k from ⟨h1.trans (ret_bool (decide_eq_false he)), h2⟩)
          clear he HI
          go_wp2
          go_quiet ((go_at_call 12; exact Calls.quiet_of (HS.out _)))
          go_wp2
          go_ret
          refine ⟨ret_bool ?_, (by obtain ⟨q, e⟩ := HQ.out; exact ⟨_, by rw [e, drewN_add]⟩)⟩
          symm
          rw [decide_eq_false_iff_not]
          rintro rfl
          exact HE.out rfl
      · go_wp2
        go_ret
        refine ⟨ret_bool ?_, HQ.out⟩
        symm
        rw [decide_eq_true_iff]
        have h1 := HN.out
        have h2 := HN2.out
        have h3 := HL.out
        exact List.ext_getElem (by omega) fun i g1 g2 => HNO.out i g1 g2 (by omega)
  · have hd : ((n : Int) != (n2 : Int)) = true := by simp; omega
    have HL := hid hl
    clear hl
    go_enter Tryd.func31, Tryd.ntmps31
    go_wp2
    go_ret
    refine ⟨ret_bool ?_, 0, rfl⟩
    symm
    rw [decide_eq_false_iff_not]
    rintro rfl
    exact HL.out (HN.out.symm.trans HN2.out)

set_option maxHeartbeats 4000000 in
set_option maxRecDepth 100000 in
theorem refReads_c (w : World) (a : Option Addr) (n cap : Nat) (M : Mask) (hn : M.length = n) (H : RowsAt w a M) (hM : okM M = true) (f : Flt) (hf : okF M f = true) (a2 : Option Addr) (n2 cap2 : Nat) (x : List Int) (hn2 : x.length = n2) (H2 : IntsAt w a2 x) (hx : okShown M x = true) :
    Calls Tryd.prog 62 #[.slice a n cap, f.val, .slice a2 n2 cap2] w fun e w' => ∃ v base, e = .returned v ∧ w.heap.size ≤ base ∧ w'.ownsRow base 3 1 v n ((readF M f x).map (Value.int .i64)) ∧ Below w.heap.size w w' := by
  obtain ⟨wf, hwf, hb0, hcells⟩ := fltBox w f
  have HF := hid (refFaulty_r wf a n cap M hn (H.below hb0) hM f hf)
  have hx2 : n2 = colsM M := by
    unfold okShown at hx
    simp at hx
    rw [← hn2]; exact hx.1.2
  have hc10 := okM10 hM
  have HRows := hid (fun (r : List Int) (hr : r ∈ faultyM M f) => show r.length = n2 by rw [(faultyM_cols hM hf r hr).1, hx2])
  have HN := hid (show (faultyM M f).length = n by rw [faultyM_row, hn])
  have hn6 : n ≤ 6 := by have := (okM_len hM).2.1; omega
  have hn210 : n2 ≤ 10 := by omega
  have HX := hid H2
  have HXN := hid hn2
  have HB0 := hid hb0
  obtain ⟨_, f0, f1, f2⟩ := hcells wf (Below.refl _ _)
  have hre : readF M f x = readM (faultyM M f) x := rfl
  rw [hre]
  obtain ⟨Mf, hMf⟩ : ∃ Mf, Mf = faultyM M f := ⟨_, rfl⟩
  rw [← hMf] at HF HRows HN ⊢
  have HWF := hid hwf
  clear hre hMf hn H hf hn2 H2 hx hM hcells hb0 hwf hx2 hc10
  obtain ⟨kind, row, pixel⟩ := f
  unfold Flt.val at HF ⊢
  simp only [] at HF HWF f0 f1 f2 ⊢
  have hw := HWF.out
  clear HWF
  subst hw
  go_enter Tryd.func62, Tryd.ntmps62
  go_wp2_with (go_at_call 53; refine HF.out.mono ?_; rintro e w1 ⟨v, base, rfl, hbase, hown, hb1⟩; refine Stop.of ?_)
  refine Stop.go ?_
  obtain ⟨va, vc, rfl, _, hrows, _⟩ := hown.reads
  have HNN := HN.out
  rw [HNN]
  have HR := hid hrows
  have HB1 := hid (chain HB0.out hb1)
  clear hown hrows hbase hb1 HNN f0 f1 f2
  go_wp2
  go_loopw [7, 17] (fun v i wr => ∃ k : Nat, k ≤ n ∧ i = .int .i64 k ∧ wr.ownsRow w1.heap.size 3 1 v k ((readM (Mf.take k) x).map (Value.int .i64)) ∧ Below w1.heap.size w1 wr) (fun _ i _ => n - (intOf i).toNat)
  case atStart => exact ⟨0, Nat.zero_le _, rfl, World.ownsRow_nil _ _ _ _, Below.refl _ _⟩
  case round =>
    obtain ⟨wo, hwo⟩ : ∃ wo, wo = wr := ⟨_, rfl⟩
    subst hwo
    obtain ⟨k, hk, rfl, hown, hbk⟩ := hrel
    by_cases hlt : k < n
    · have hkM : k < Mf.length := by rw [HN.out]; exact hlt
      obtain ⟨b, off, ra, rn, rc, rfl, hbs, hq0, hrn, hrm, hri⟩ := (HR.out.below hbk) k hkM
      have hrl := HRows.out Mf[k] (List.getElem_mem hkM)
      obtain ⟨r, hr⟩ : ∃ r, r = Mf[k] := ⟨_, rfl⟩
      have htk := readM_take Mf x k hkM
      rw [← hr] at hrn hri hrl htk
      obtain rfl : rn = n2 := by omega
      have HTK := hid htk
      have HRN := hid hrn
      have HRI := hid hri
      have HOW := hid hown
      have HBK := hid hbk
      have HXK := hid (HX.out.below (chain HB1.out hbk))
      obtain ⟨va', vc', rfl⟩ := ownsRow_slice hown
      clear hr htk hrn hri hrl hown hbk hkM hrm
      go_wp2
      go_loopw [10, 23] (fun s i wr => ∃ j : Nat, j ≤ rn ∧ i = .int .i64 j ∧ s = .int .i64 (dotTo r x j) ∧ wr = wo) (fun _ i _ => rn - (intOf i).toNat)
      case atStart => exact ⟨0, Nat.zero_le _, rfl, rfl, rfl⟩
      case round =>
        obtain ⟨j, hj, rfl, rfl, rfl⟩ := hrel
        by_cases hjlt : j < rn
        · obtain ⟨b2, off2, rfl, hbs2, hc2⟩ := HRI.out j (by rw [HRN.out]; exact hjlt)
          obtain ⟨b3, off3, rfl, hbs3, hc3⟩ := HXK.out j (by rw [HXN.out]; exact hjlt)
          go_wp2
          exact ⟨⟨j + 1, by omega, by go_num, rfl, trivial⟩, by simp [intOf]; omega⟩
        · obtain rfl : j = rn := by omega
          obtain ⟨D, hD⟩ : ∃ D, D = dotTo r x j := ⟨_, rfl⟩
          have HD := hid (show D = dotW r x by rw [hD]; unfold dotW; rw [HRN.out])
          rw [← hD]
          clear hD
          have M1 := hid (show k + 1 ≤ maxLen by unfold maxLen; omega)
          have M2 := hid (show (k + 1) * 8 ≤ 140737488355328 by omega)
          have M3 := hid (Nat.le_trans HBK.out.size (le_alloc wr (.cells #[.int .i64 D] 3)))
          go_wp2_with (at_builtin; refine wpList_app _ rfl (.tmp 37) (.tmp 39) 30 rfl w1.heap.size 3 (.int .i64 0) 1 8 Tryd.underlying30 info_int rfl Nat.one_pos (.slice va' k vc') k _ rfl (HOW.out.alloc _) (some ⟨wr.heap.size, 0, none⟩) 1 1 [.int .i64 D] rfl rfl no_none (one_news wr _ _) (oneI _) M1.out M2.out M3.out ?_; refine Stop.of ?_)
          refine Stop.go ?_
          intro a3 c3 w3 own3 g3
          have hB3 : Below w1.heap.size w1 w3 := (HBK.out.alloc HBK.out.size _).grown g3 M3.out (fun q hq => (HOW.out.lt q hq).1)
          go_wp2
          refine ⟨⟨k + 1, by omega, by go_num, ?_, hB3⟩, by simp [intOf]; omega⟩
          rw [HTK.out, ← HD.out]
          simpa using own3
    · obtain rfl : k = n := by omega
      go_wp2
      go_ret
      refine ⟨_, w1.heap.size, rfl, HB1.out.size, ?_, chain HB1.out hbk⟩
      rw [← HN.out, List.take_length] at hown
      rw [HN.out] at hown
      exact hown
end Go.Proofs.YthaampmdponhbaaDoor

namespace Go.Proofs.YthaampmdponhbaaDoor
open Go.RowKit
set_option linter.unusedVariables false

theorem flt_newsA (w : World) (f : Flt) (T : TypeId) : ∀ ad, (some ⟨w.heap.size, 0, none⟩ : Option Addr) = some ad → ∀ j u, (fltCells f)[j]? = some u → (w.alloc (.cells (fltCells f).toArray T)).cell? (ad.add j) = some u := by
  intro ad e
  cases e
  exact flt_news w f T
theorem FltsO.snoc {W : World} {base n : Nat} {v : Value} {l : List Flt} {f : Flt} (hl : l.length = n) (h : W.ownsRow base 34 3 v (n + 1) (fltVals l ++ fltCells f)) : FltsO W base v (l ++ [f]) := by
  subst hl
  unfold FltsO
  rw [fltVals_snoc, List.length_append]
  exact h
theorem FltsO.slice {W : World} {base : Nat} {v : Value} {l : List Flt} (h : FltsO W base v l) : ∃ a c, v = .slice a l.length c := ownsRow_slice h

def turnsTo (i : Nat) (r : List Int) (k : Nat) : List Flt := ((List.range k).filter (fun j : Nat => !decide (r[j]?.getD 0 = 0))).map (fun j : Nat => ⟨3, (i : Int), (j : Int)⟩)
theorem turnsTo_succ (i : Nat) (r : List Int) (k : Nat) : turnsTo i r (k + 1) = turnsTo i r k ++ (if r[k]?.getD 0 = 0 then [] else [⟨3, (i : Int), (k : Int)⟩]) := by
  unfold turnsTo
  rw [List.range_succ, List.filter_append, List.map_append]
  congr 1
  by_cases h : r[k]?.getD 0 = 0 <;> simp [h]
set_option maxHeartbeats 4000000 in
set_option maxRecDepth 100000 in
theorem refEvery_c (w : World) (a : Option Addr) (n cap : Nat) (M : Mask) (hn : M.length = n) (H : RowsAt w a M) (hM : okM M = true) :
    Calls Tryd.prog 81 #[.slice a n cap] w fun e w' => ∃ v base, e = .returned v ∧ w.heap.size ≤ base ∧ FltsO w' base v (listF M) ∧ Below w.heap.size w w' := by
  obtain ⟨m1, m6, c1, c10, hrows⟩ := okM_len hM
  obtain ⟨b, off, qa, qn, qc, rfl, hbs, hq0, hqn, hqm, hqi⟩ := H 0 (by omega)
  simp only [Nat.add_zero] at hq0
  have hcols : colsM M = qn := by unfold colsM; rw [List.getElem?_eq_getElem (by omega), ← hqn]; rfl
  have HCO := hid hcols
  have HR := hid hrows
  have HN := hid hn
  have HH := hid H
  have hq1 : 1 ≤ qn := by omega
  have hq10 : qn ≤ 10 := by omega
  have hn6 : n ≤ 6 := by omega
  have hn1 : 1 ≤ n := by omega
  obtain ⟨w0, hw0⟩ : ∃ w0, w0 = w.alloc (.cells #[.int .i64 0, .int .i64 0, .int .i64 0] 34) := ⟨_, rfl⟩
  have hb0 : Below w.heap.size w w0 := by rw [hw0]; exact (Below.refl _ _).alloc (Nat.le_refl _) _
  have ho0 : FltsO w0 w.heap.size (.slice (some ⟨w.heap.size, 0, none⟩) 1 1) [⟨0, 0, 0⟩] := by
    rw [hw0]
    exact ⟨rfl, .inr ⟨w.heap.size, 1, #[.int .i64 0, .int .i64 0, .int .i64 0], rfl, Nat.le_refl _, World.alloc_heap_new w _, Nat.le_refl _, by unfold maxLen; omega, rfl, rfl⟩⟩
  have HB0 := hid hb0
  have HO0 := hid ho0
  have HW0 := hid hw0
  clear hcols hrows hn H hM m1 m6 c1 c10 hqn hqm hqi hb0 ho0 hw0
  go_enter Tryd.func81, Tryd.ntmps81
  go_wp2
  rw [← HW0.out]
  go_loopw [3, 14] (fun v i wr => ∃ (k : Nat) (l : List Flt), k ≤ n ∧ i = .int .i64 k ∧ FltsO wr w.heap.size v l ∧ l.length ≤ 1 + k ∧ Hid (l = [⟨0, 0, 0⟩] ++ (List.range k).map (fun i : Nat => ⟨1, (i : Int), 0⟩)) ∧ Below w.heap.size w wr) (fun _ i _ => n - (intOf i).toNat)
  case atStart => exact ⟨0, _, Nat.zero_le _, rfl, HO0.out, Nat.le_refl _, hid rfl, HB0.out⟩
  case round =>
    obtain ⟨k, l, hk, rfl, hF, hll, hl, hbk⟩ := hrel
    by_cases hlt : k < n
    · obtain ⟨va, vc, rfl⟩ := hF.slice
      obtain ⟨L, hL⟩ : ∃ L, L = l.length := ⟨_, rfl⟩
      have HL := hid hL
      have HF := hid (show wr.ownsRow w.heap.size 34 3 (.slice va L vc) L (fltVals l) by rw [hL]; exact hF)
      have HBK := hid hbk
      rw [← hL] at hll ⊢
      have M1 := hid (show L + 1 ≤ maxLen by unfold maxLen; omega)
      have M2 := hid (show (L + 1) * 24 ≤ 140737488355328 by omega)
      have M3 := hid (show w.heap.size ≤ (wr.alloc (.cells (fltCells ⟨1, (k : Int), 0⟩).toArray 34)).heap.size by have := hbk.size; simp; omega)
      clear hF hbk hL
      go_wp2_with (at_builtin; refine wpList_app _ rfl (.tmp 17) (.tmp 20) 39 rfl w.heap.size 34 (.agg #[.int .i64 0, .int .i64 0, .int .i64 0]) 3 24 Tryd.underlying39 info_fault rfl (by decide) (.slice va L vc) L _ rfl (HF.out.alloc _) (some ⟨wr.heap.size, 0, none⟩) 1 1 (fltCells ⟨1, (k : Int), 0⟩) rfl rfl no_none (flt_newsA wr ⟨1, (k : Int), 0⟩ _) (flt_one _) M1.out M2.out M3.out ?_; refine Stop.of ?_)
      refine Stop.go ?_
      intro a3 c3 w3 own3 g3
      have hb3 : Below w.heap.size w w3 := (HBK.out.alloc HBK.out.size _).grown g3 M3.out (fun q hq => (HF.out.lt q hq).1)
      go_wp2
      refine ⟨⟨k + 1, _, by omega, by go_num, FltsO.snoc HL.out.symm own3, by rw [List.length_append, ← HL.out]; simp; omega, hid ?_, hb3⟩, by simp [intOf]; omega⟩
      rw [hl.out, List.range_succ, List.map_append, List.append_assoc]; rfl
    · obtain rfl : k = n := by omega
      obtain ⟨A, hA⟩ : ∃ A, A = l := ⟨_, rfl⟩
      subst hA
      have hc1 : wr.cell? ⟨b, off, none⟩ = some (.slice qa qn qc) := (hbk.cell (p := ⟨b, off, none⟩) hbs).trans hq0
      go_wp2
      go_loopw [3, 27] (fun v i wr => ∃ (j : Nat) (l : List Flt), j ≤ qn ∧ i = .int .i64 j ∧ FltsO wr w.heap.size v l ∧ l.length ≤ 1 + k + j ∧ Hid (l = A ++ (List.range j).map (fun i : Nat => ⟨2, 0, (i : Int)⟩)) ∧ Below w.heap.size w wr) (fun _ i _ => qn - (intOf i).toNat)
      case atStart => exact ⟨0, A, Nat.zero_le _, rfl, hF, by omega, hid (by simp), hbk⟩
      case round =>
        clear hc1 hF hbk hll
        obtain ⟨j, l, hj, rfl, hF, hll, hl2, hbk⟩ := hrel
        by_cases hlt : j < qn
        · obtain ⟨va, vc, rfl⟩ := hF.slice
          obtain ⟨L, hL⟩ : ∃ L, L = l.length := ⟨_, rfl⟩
          have HL := hid hL
          have HF := hid (show wr.ownsRow w.heap.size 34 3 (.slice va L vc) L (fltVals l) by rw [hL]; exact hF)
          have HBK := hid hbk
          rw [← hL] at hll ⊢
          have M1 := hid (show L + 1 ≤ maxLen by unfold maxLen; omega)
          have M2 := hid (show (L + 1) * 24 ≤ 140737488355328 by omega)
          have M3 := hid (show w.heap.size ≤ (wr.alloc (.cells (fltCells ⟨2, 0, (j : Int)⟩).toArray 34)).heap.size by have := hbk.size; simp; omega)
          clear hF hbk hL
          go_wp2_with (at_builtin; refine wpList_app _ rfl (.tmp 30) (.tmp 33) 39 rfl w.heap.size 34 (.agg #[.int .i64 0, .int .i64 0, .int .i64 0]) 3 24 Tryd.underlying39 info_fault rfl (by decide) (.slice va L vc) L _ rfl (HF.out.alloc _) (some ⟨wr.heap.size, 0, none⟩) 1 1 (fltCells ⟨2, 0, (j : Int)⟩) rfl rfl no_none (flt_newsA wr ⟨2, 0, (j : Int)⟩ _) (flt_one _) M1.out M2.out M3.out ?_; refine Stop.of ?_)
          refine Stop.go ?_
          intro a3 c3 w3 own3 g3
          have hb3 : Below w.heap.size w w3 := (HBK.out.alloc HBK.out.size _).grown g3 M3.out (fun q hq => (HF.out.lt q hq).1)
          go_wp2
          refine ⟨⟨j + 1, _, by omega, by go_num, FltsO.snoc HL.out.symm own3, by rw [List.length_append, ← HL.out]; simp; omega, hid ?_, hb3⟩, by simp [intOf]; omega⟩
          rw [hl2.out, List.range_succ, List.map_append, List.append_assoc]; rfl
        · obtain rfl : j = qn := by omega
          obtain ⟨B, hB⟩ : ∃ B, B = l := ⟨_, rfl⟩
          subst hB
          go_wp2
          go_loopw [3, 38] (fun v i wr => ∃ (i' : Nat) (l : List Flt), i' ≤ k ∧ i = .int .i64 i' ∧ FltsO wr w.heap.size v l ∧ l.length ≤ 1 + k + j + 10 * i' ∧ Hid (l = B ++ (List.range i').flatMap (fun i : Nat => turnsF M i (M[i]?.getD []))) ∧ Below w.heap.size w wr) (fun _ i _ => k - (intOf i).toNat)
          case atStart => exact ⟨0, B, Nat.zero_le _, rfl, hF, by omega, hid (by simp), hbk⟩
          case round =>
            clear hF hbk hll
            obtain ⟨i, C, hi, rfl, hF, hll, hl3, hbk⟩ := hrel
            by_cases hlt : i < k
            · have hiM : i < M.length := by rw [HN.out]; exact hlt
              obtain ⟨b1, off1, ra, rn, rc, e1, hbs1, hri0, hrn, hrm, hrI⟩ := HH.out i hiM
              cases e1
              have hri0 : wr.cell? ⟨b, off + i, none⟩ = some (.slice ra rn rc) := (hbk.cell (p := ⟨b, _, none⟩) hbs1).trans hri0
              have hrl := (HR.out M[i] (List.getElem_mem hiM)).1
              have htf : turnsF M i (M[i]?.getD []) = turnsTo i M[i] rn := by rw [List.getElem?_eq_getElem hiM, ← hrn]; rfl
              obtain ⟨r, hr⟩ : ∃ r, r = M[i] := ⟨_, rfl⟩
              rw [← hr] at hrn hrI hrl htf
              have hrn10 : rn ≤ 10 := by have := HCO.out; omega
              have HRN := hid hrn
              have HRI := hid hrI
              have HTF := hid htf
              have HWB := hid hbk
              obtain ⟨wo, hwo⟩ : ∃ wo, wo = wr := ⟨_, rfl⟩
              subst hwo
              clear hrn hrI hrl htf hr hiM hrm
              go_wp2
              go_loopw [3, 45] (fun v i' wr => ∃ (s : Nat) (l : List Flt), s ≤ rn ∧ i' = .int .i64 s ∧ FltsO wr w.heap.size v l ∧ l.length ≤ 1 + k + j + 10 * i + s ∧ Hid (l = C ++ turnsTo i r s) ∧ Below w.heap.size w wr) (fun _ i' _ => rn - (intOf i').toNat)
              case atStart => exact ⟨0, C, Nat.zero_le _, rfl, hF, by omega, hid (by simp [turnsTo]), hbk⟩
              case round =>
                clear hF hbk hll
                obtain ⟨s, l, hs, rfl, hF, hll, hl4, hbk⟩ := hrel
                by_cases hlt : s < rn
                · obtain ⟨b2, off2, rfl, hbs2, hc2⟩ := HRI.out s (by rw [HRN.out]; exact hlt)
                  have hc2 := (hbk.cell (p := ⟨b2, _, none⟩) hbs2).trans hc2
                  have hts := turnsTo_succ i r s
                  obtain ⟨X, hX⟩ : ∃ X, X = r[s]?.getD 0 := ⟨_, rfl⟩
                  rw [← hX] at hts hc2
                  have HTS := hid hts
                  clear hts hX
                  by_cases hx : X = 0
                  · subst hx
                    go_wp2
                    refine ⟨⟨s + 1, l, by omega, by go_num, hF, by omega, hid ?_, hbk⟩, by simp [intOf]; omega⟩
                    rw [HTS.out, hl4.out]; simp
                  · have hx2 : (X != 0) = true := by simpa using hx
                    have HX := hid hx
                    clear hx
                    obtain ⟨va, vc, rfl⟩ := hF.slice
                    obtain ⟨L, hL⟩ : ∃ L, L = l.length := ⟨_, rfl⟩
                    have HL := hid hL
                    have HF := hid (show wr.ownsRow w.heap.size 34 3 (.slice va L vc) L (fltVals l) by rw [hL]; exact hF)
                    have HBK := hid hbk
                    rw [← hL] at hll ⊢
                    have M1 := hid (show L + 1 ≤ maxLen by unfold maxLen; omega)
                    have M2 := hid (show (L + 1) * 24 ≤ 140737488355328 by omega)
                    have M3 := hid (show w.heap.size ≤ (wr.alloc (.cells (fltCells ⟨3, (i : Int), (s : Int)⟩).toArray 34)).heap.size by have := hbk.size; simp; omega)
                    clear hF hbk hL
                    go_wp2_with (at_builtin; refine wpList_app _ rfl (.tmp 52) (.tmp 56) 39 rfl w.heap.size 34 (.agg #[.int .i64 0, .int .i64 0, .int .i64 0]) 3 24 Tryd.underlying39 info_fault rfl (by decide) (.slice va L vc) L _ rfl (HF.out.alloc _) (some ⟨wr.heap.size, 0, none⟩) 1 1 (fltCells ⟨3, (i : Int), (s : Int)⟩) rfl rfl no_none (flt_newsA wr ⟨3, (i : Int), (s : Int)⟩ _) (flt_one _) M1.out M2.out M3.out ?_; refine Stop.of ?_)
                    refine Stop.go ?_
                    intro a3 c3 w3 own3 g3
                    have hb3 : Below w.heap.size w w3 := (HBK.out.alloc HBK.out.size _).grown g3 M3.out (fun q hq => (HF.out.lt q hq).1)
                    go_wp2
                    refine ⟨⟨s + 1, _, by omega, by go_num, FltsO.snoc HL.out.symm own3, by rw [List.length_append, ← HL.out]; simp; omega, hid ?_, hb3⟩, by simp [intOf]; omega⟩
                    rw [HTS.out, if_neg HX.out, hl4.out, List.append_assoc]
                · obtain rfl : s = rn := by omega
                  go_wp2
                  refine ⟨⟨i + 1, l, by omega, by go_num, hF, by omega, hid ?_, hbk⟩, by simp [intOf]; omega⟩
                  rw [List.range_succ, List.flatMap_append, ← List.append_assoc, ← hl3.out, hl4.out]
                  simp [HTF.out]
            · obtain rfl : i = k := by omega
              go_wp2
              go_ret
              refine ⟨_, w.heap.size, rfl, Nat.le_refl _, ?_, hbk⟩
              have e : C = listF M := by
                rw [hl3.out, hl2.out, hl.out]; unfold listF; rw [HN.out, HCO.out]
              rw [← e]; exact hF
end Go.Proofs.YthaampmdponhbaaDoor

namespace Go.Proofs.YthaampmdponhbaaDoor
open Go.RowKit
set_option linter.unusedVariables false

theorem any_succ {α : Type} (p : α → Bool) (l : List α) (k : Nat) (hk : k < l.length) : (l.take (k + 1)).any p = ((l.take k).any p || p l[k]) := by
  rw [List.take_succ_eq_append_getElem hk, List.any_append]; simp

def FC (W : World) (b : Nat) (k r p : Int) : Prop := W.cell? ⟨b, 0, none⟩ = some (.int .i64 k) ∧ W.cell? ⟨b, 1, none⟩ = some (.int .i64 r) ∧ W.cell? ⟨b, 2, none⟩ = some (.int .i64 p)
theorem FC.below {W W' : World} {b : Nat} {k r p : Int} (h : FC W b k r p) (hlt : b < W.heap.size) (hb : Below W.heap.size W W') : FC W' b k r p :=
  ⟨(hb.cell (p := ⟨b, 0, none⟩) hlt).trans h.1, (hb.cell (p := ⟨b, 1, none⟩) hlt).trans h.2.1, (hb.cell (p := ⟨b, 2, none⟩) hlt).trans h.2.2⟩
theorem FC.new (W : World) (k r p : Int) (T : TypeId) : FC (W.alloc (.cells #[.int .i64 k, .int .i64 r, .int .i64 p] T)) W.heap.size k r p := by
  refine ⟨?_, ?_, ?_⟩ <;> (rw [World.cell?_alloc_at _ _ _ _ rfl]; rfl)

theorem sameMask_b (W : World) (a a2 : Option Addr) (n cap cap2 : Nat) (A B : Mask) (D : Bool) (hn : A.length = n) (hn2 : B.length = n) (hm : n ≤ maxLen) (H : RowsAt W a A) (H2 : RowsAt W a2 B) (hD : D = decide (A = B)) :
    Calls Tryd.prog 31 #[.slice a n cap, .slice a2 n cap2] W fun e w' => e = .returned (.bool D) ∧ Below W.heap.size W w' := by
  subst hD
  exact (sameMask_c W a a2 n cap n cap2 A B hn hn2 hm hm H H2).mono fun e w' ⟨h1, k, h2⟩ => ⟨h1, by rw [h2]; exact below_drewN (Below.refl _ _) _⟩

set_option maxHeartbeats 4000000 in
set_option maxRecDepth 100000 in
theorem refAll_c (w : World) (a : Option Addr) (n cap : Nat) (M : Mask) (hn : M.length = n) (H : RowsAt w a M) (hM : okM M = true) :
    Calls Tryd.prog 51 #[.slice a n cap] w fun e w' => ∃ v base, e = .returned v ∧ w.heap.size ≤ base ∧ FltsO w' base v (allF M) ∧ Below w.heap.size w w' := by
  have HEv := hid (refEvery_c w a n cap M hn H hM)
  rw [← everyF_list hM] at HEv
  have hL240 := every_240 hM
  have hn6 : n ≤ 6 := by have := (okM_len hM).2.1; omega
  have HFa := hid (fun (W : World) (hb : Below w.heap.size w W) (f : Flt) (hf : okF M f = true) => refFaulty_r W a n cap M hn (H.below hb) hM f hf)
  have HMl := hid (fun (f : Flt) => show (faultyM M f).length = n by rw [faultyM_row, hn])
  have HOK := hid (fun (f : Flt) (hf : f ∈ everyF M) => every_ok hf)
  have HTO := hid (allTo_snoc M)
  have HAL := hid (allTo_length M)
  have HAM := hid (fun (xs : List Flt) (f : Flt) => @allTo_mem M xs f)
  have hall : allF M = allTo M (everyF M) := rfl
  rw [hall]
  obtain ⟨LL, hLL⟩ : ∃ LL, LL = everyF M := ⟨_, rfl⟩
  rw [← hLL] at HEv HOK hL240 ⊢
  clear hall hn H hM hLL
  go_enter Tryd.func51, Tryd.ntmps51
  go_wp2_with (go_at_call 81; refine HEv.out.mono ?_; rintro e w1 ⟨v, base, rfl, hbase, hF, hb1⟩; refine Stop.of ?_)
  refine Stop.go ?_
  obtain ⟨ea, ec, rfl, hm, hE⟩ := hF.reads
  obtain ⟨L, hL⟩ : ∃ L, L = LL.length := ⟨_, rfl⟩
  rw [← hL] at hL240 ⊢
  have HL := hid hL
  have HE := hid hE
  have HB1 := hid hb1
  clear hF hE hm hb1 hL
  go_wp2
  go_loopw [3, 12] (fun v i wr => ∃ k : Nat, k ≤ L ∧ i = .int .i64 k ∧ FltsO wr w1.heap.size v (allTo M (LL.take k)) ∧ Below w1.heap.size w1 wr) (fun _ i _ => L - (intOf i).toNat)
  case atStart => exact ⟨0, Nat.zero_le _, rfl, FltsO.nil _ _, Below.refl _ _⟩
  case round =>
    obtain ⟨k, hk, rfl, hF, hbk⟩ := hrel
    by_cases hlt : k < L
    · have hkL : k < LL.length := by rw [← HL.out]; exact hlt
      obtain ⟨b, off, rfl, hbs, h0, h1, h2⟩ := (HE.out.below hbk) k hkL
      have hok := HOK.out LL[k] (List.getElem_mem hkL)
      have hto := HTO.out (LL.take k) LL[k]
      rw [← List.take_succ_eq_append_getElem hkL] at hto
      have hal := HAL.out (LL.take k)
      rw [List.length_take] at hal
      have hmem : ∀ g ∈ allTo M (LL.take k), okF M g = true := fun g hg => HOK.out g (List.mem_of_mem_take (HAM.out _ _ hg))
      obtain ⟨A, hA⟩ : ∃ A, A = allTo M (LL.take k) := ⟨_, rfl⟩
      rw [← hA] at hto hal hmem hF
      obtain ⟨f, hf⟩ : ∃ f, f = LL[k] := ⟨_, rfl⟩
      rw [← hf] at hto h0 h1 h2 hok
      obtain ⟨wo, hwo⟩ : ∃ wo, wo = wr := ⟨_, rfl⟩
      subst hwo
      obtain ⟨kind, row, pixel⟩ := f
      simp only [] at h0 h1 h2
      obtain ⟨wf, hwf⟩ : ∃ wf, wf = wo.alloc (.cells #[.int .i64 kind, .int .i64 row, .int .i64 pixel] 34) := ⟨_, rfl⟩
      have hbf : Below wo.heap.size wo wf := by rw [hwf]; exact (Below.refl _ _).alloc (Nat.le_refl _) _
      have hfc : FC wf wo.heap.size kind row pixel := by rw [hwf]; exact FC.new _ _ _ _ _
      have hsf : wf.heap.size = wo.heap.size + 1 := by rw [hwf]; simp
      have hFf := hF.below hbf
      obtain ⟨oa, oc, rfl, hom, hO⟩ := hFf.reads
      obtain ⟨q, hq⟩ : ∃ q, q = A.length := ⟨_, rfl⟩
      have hq240 : q ≤ 240 := by omega
      have HQ := hid hq
      have HOA := hid hO
      have HTo := hid hto
      have HMem := hid hmem
      have HOk := hid hok
      have HBK := hid (chain hbk hbf)
      have HFC := hid hfc
      have HFF := hid (show FltsO wf w1.heap.size (.slice oa q oc) A by rw [hq]; exact hFf)
      have HBW := hid (chain HB1.out (chain hbk hbf))
      have HSF := hid hsf
      have HWF := hid hwf
      rw [← hq]
      clear hq hO hto hmem hok hbk hbf hfc hFf hF hA hf hkL hsf hom hal hwf
      go_wp2
      rw [← HWF.out]
      go_loopw [6, 18] (fun v i wr => ∃ j : Nat, j ≤ q ∧ i = .int .i64 j ∧ (∃ T, v = .bool T ∧ Hid (T = (A.take j).any (fun g => decide (faultyM M g = faultyM M ⟨kind, row, pixel⟩)))) ∧ Below wf.heap.size wf wr) (fun _ i _ => q - (intOf i).toNat)
      case atStart => exact ⟨0, Nat.zero_le _, rfl, ⟨_, rfl, hid rfl⟩, Below.refl _ _⟩
      case round =>
        obtain ⟨j, hj, rfl, ⟨T, rfl, hT⟩, hbj⟩ := hrel
        by_cases hjlt : j < q
        · have hjA : j < A.length := by rw [← HQ.out]; exact hjlt
          obtain ⟨b2, off2, rfl, hbs2, h0', h1', h2'⟩ := (HOA.out.below hbj) j hjA
          have hany := any_succ (fun g => decide (faultyM M g = faultyM M ⟨kind, row, pixel⟩)) A j hjA
          have hokg := HMem.out A[j] (List.getElem_mem hjA)
          obtain ⟨g, hg⟩ : ∃ g, g = A[j] := ⟨_, rfl⟩
          rw [← hg] at hany h0' h1' h2' hokg
          have HAny := hid hany
          have HOKg := hid hokg
          have HBJ := hid hbj
          obtain ⟨gk, gr, gp⟩ := g
          simp only [] at h0' h1' h2'
          obtain ⟨wg, hwg⟩ : ∃ wg, wg = wr.alloc (.cells #[.int .i64 gk, .int .i64 gr, .int .i64 gp] 34) := ⟨_, rfl⟩
          have hbg : Below wr.heap.size wr wg := by rw [hwg]; exact (Below.refl _ _).alloc (Nat.le_refl _) _
          have hgc : FC wg wr.heap.size gk gr gp := by rw [hwg]; exact FC.new _ _ _ _ _
          have hsg : wg.heap.size = wr.heap.size + 1 := by rw [hwg]; simp
          have hbwg := chain hbj hbg
          have hfc2 : FC wg wo.heap.size kind row pixel := HFC.out.below (by rw [HSF.out]; omega) hbwg
          have HWG := hid hwg
          clear hany hg hjA hokg hbj hwg
          cases T
          · obtain ⟨D, hD⟩ : ∃ D, D = decide (faultyM M ⟨kind, row, pixel⟩ = faultyM M ⟨gk, gr, gp⟩) := ⟨_, rfl⟩
            have HD := hid hD
            have hs2 : ∀ W, Below wg.heap.size wg W → (W.cell? ⟨wo.heap.size, 0, none⟩ = some (.int .i64 kind) ∧ W.cell? ⟨wo.heap.size, 1, none⟩ = some (.int .i64 row) ∧ W.cell? ⟨wo.heap.size, 2, none⟩ = some (.int .i64 pixel)) ∧ W.cell? ⟨wr.heap.size, 0, none⟩ = some (.int .i64 gk) ∧ W.cell? ⟨wr.heap.size, 1, none⟩ = some (.int .i64 gr) ∧ W.cell? ⟨wr.heap.size, 2, none⟩ = some (.int .i64 gp) := fun W hb =>
              ⟨hfc2.below (by have := hbwg.size; have := HSF.out; omega) hb, hgc.below (by omega) hb⟩
            have HS := hid hs2
            have HBG := hid hbwg
            have HF1 := hid (fun (W : World) (hb : Below wg.heap.size wg W) => HFa.out W (chain (chain HBW.out HBG.out) hb) _ HOk.out)
            have HG1 := hid (fun (W : World) (hb : Below wg.heap.size wg W) => HFa.out W (chain (chain HBW.out HBG.out) hb) _ HOKg.out)
            have HSM := hid (fun (W : World) (a4 a5 : Option Addr) (c4 c5 : Nat) (hA4 : RowsAt W a4 (faultyM M ⟨kind, row, pixel⟩)) (hA5 : RowsAt W a5 (faultyM M ⟨gk, gr, gp⟩)) => sameMask_b W a4 a5 n c4 c5 _ _ D (HMl.out _) (HMl.out _) (by unfold maxLen; omega) hA4 hA5 hD)
            have FIN := hid (fun (W : World) (hb : Below wg.heap.size wg W) => show (D = (A.take (j + 1)).any (fun g => decide (faultyM M g = faultyM M ⟨kind, row, pixel⟩))) ∧ Below wf.heap.size wf W from ⟨by
              rw [HAny.out, ← hT.out, hD, Bool.false_or]
              congr 1
              rw [eq_iff_iff]
              exact eq_comm, chain HBG.out hb⟩)
            simp only [Flt.val] at HF1 HG1
            clear hD hs2 hbwg hfc2 hgc hbg
            go_wp2
            rw [← HWG.out]
            clear HWG
            refine plain_region (fun j W => (fun _ : Nat => true) j = true → ((W.cell? ⟨wo.heap.size, 0, none⟩ = some (.int .i64 kind) ∧ W.cell? ⟨wo.heap.size, 1, none⟩ = some (.int .i64 row) ∧ W.cell? ⟨wo.heap.size, 2, none⟩ = some (.int .i64 pixel)) ∧ W.cell? ⟨wr.heap.size, 0, none⟩ = some (.int .i64 gk) ∧ W.cell? ⟨wr.heap.size, 1, none⟩ = some (.int .i64 gr) ∧ W.cell? ⟨wr.heap.size, 2, none⟩ = some (.int .i64 gp))) (by kernel_rfl) ?_
            have hbd : Below wg.heap.size wg wg.drew := (Below.refl _ _).drew
            generalize wg.drew = wd at hbd ⊢
            refine AnyT.takeW (i := 0) (v := .bool false) rfl (by kernel_rfl) (by kernel_rfl) (by kernel_rfl) (fun _ _ _ h => h) (by kernel_rfl) (by rfl) (by intro w' hw'; go_simp) (HS.out _ hbd) ?_
            refine AnyT.takeW (i := 1) (v := .bool false) rfl (by kernel_rfl) (by kernel_rfl) (by kernel_rfl) (fun _ _ _ h => h) (by kernel_rfl) (by rfl) (by intro w' hw'; go_simp) (HS.out _ hbd) ?_
            refine AnyT.takeW (i := 2) (v := .slice a n cap) rfl (by kernel_rfl) (by kernel_rfl) (by kernel_rfl) (fun _ _ _ h => h) (by kernel_rfl) (by rfl) (by intro w' hw'; go_simp) (HS.out _ hbd) ?_
            refine AnyT.takeW (i := 3) (v := .agg #[.int .i64 kind, .int .i64 row, .int .i64 pixel]) rfl (by kernel_rfl) (by kernel_rfl) (by kernel_rfl) (fun _ _ _ h => h) (by kernel_rfl) (by rfl) (by rintro w' ⟨⟨q0, q1, q2⟩, q3, q4, q5⟩; go_simp) (HS.out _ hbd) ?_
            refine AnyT.takeW (i := 5) (v := .slice a n cap) rfl (by kernel_rfl) (by kernel_rfl) (by kernel_rfl) (fun _ _ _ h => h) (by kernel_rfl) (by rfl) (by intro w' hw'; go_simp) (HS.out _ hbd) ?_
            refine AnyT.takeW (i := 6) (v := .agg #[.int .i64 gk, .int .i64 gr, .int .i64 gp]) rfl (by kernel_rfl) (by kernel_rfl) (by kernel_rfl) (fun _ _ _ h => h) (by kernel_rfl) (by rfl) (by rintro w' ⟨⟨q0, q1, q2⟩, q3, q4, q5⟩; go_simp) (HS.out _ hbd) ?_
            refine AnyT.next (i := 4) (by kernel_rfl) rfl (wpOp_of_list rfl ?_)
            go_wp2_with (go_at_call 53; refine (HF1.out _ hbd).mono ?_; rintro e w4 ⟨v4, b4, rfl, hb4, hR4, hbl4⟩; refine Stop.of ?_)
            refine Stop.go ?_
            obtain ⟨a4, c4, rfl, _, hA4, _⟩ := hR4.reads
            have hw4 := chain hbd hbl4
            rw [HMl.out _]
            go_wp2
            refine ⟨fun _ => HS.out _ hw4, ?_⟩
            refine AnyT.next (i := 7) (by kernel_rfl) rfl (wpOp_of_list rfl ?_)
            go_wp2_with (go_at_call 53; refine (HG1.out _ hw4).mono ?_; rintro e w5 ⟨v5, b5, rfl, hb5, hR5, hbl5⟩; refine Stop.of ?_)
            refine Stop.go ?_
            obtain ⟨a5, c5, rfl, _, hA5, _⟩ := hR5.reads
            have hw5 := chain hw4 hbl5
            have h4 := hA4.below hbl5
            have h5 := hA5
            rw [HMl.out _]
            go_wp2
            refine ⟨fun _ => HS.out _ hw5, ?_⟩
            refine AnyT.next (i := 8) (by kernel_rfl) rfl (wpOp_of_list rfl ?_)
            go_wp2_with (go_at_call 31; refine (HSM.out w5 a4 a5 c4 c5 h4 h5).mono ?_; rintro e w6 ⟨rfl, hbl6⟩; refine Stop.of ?_)
            refine Stop.go ?_
            have hw6 := chain hw5 hbl6
            go_wp2
            refine ⟨fun _ => HS.out _ hw6, ?_⟩
            refine AnyT.next (i := 9) (by kernel_rfl) rfl (wpOp_of_list rfl ?_)
            go_wp2
            refine ⟨fun _ => HS.out _ hw6, ?_⟩
            refine AnyT.next (i := 10) (by kernel_rfl) rfl (wpOp_of_list rfl ?_)
            go_wp2
            refine ⟨fun _ => HS.out _ hw6, ?_⟩
            refine AnyT.done (by kernel_rfl) ?_ _
            go_wp2
            exact ⟨⟨j + 1, by omega, by go_num, ⟨_, rfl, hid (FIN.out _ hw6).1⟩, (FIN.out _ hw6).2⟩, by simp [intOf]; omega⟩
          · have FIN := hid (show (true = (A.take (j + 1)).any (fun g => decide (faultyM M g = faultyM M ⟨kind, row, pixel⟩))) ∧ Below wf.heap.size wf wg from ⟨by rw [HAny.out, ← hT.out, Bool.true_or], hbwg⟩)
            go_wp2
            rw [← HWG.out]
            go_quiet (fail)
            go_wp2
            exact ⟨⟨j + 1, by omega, by go_num, ⟨_, rfl, hid FIN.out.1⟩, below_drewN FIN.out.2 _⟩, by simp [intOf]; omega⟩
        · obtain rfl : j = q := by omega
          have hT2 : T = A.any (fun g => decide (faultyM M g = faultyM M ⟨kind, row, pixel⟩)) := by rw [hT.out, List.take_of_length_le (by rw [← HQ.out]; exact Nat.le_refl _)]
          have hto := HTo.out
          rw [← hT2] at hto
          obtain ⟨q0, q1, q2⟩ := HFC.out.below (by rw [HSF.out]; omega) hbj
          have HFO := hid (HFF.out.below hbj)
          have HTO2 := hid hto
          have HBJ := hid hbj
          clear hto hT2 hbj
          cases T
          · have HOw := hid (show wr.ownsRow w1.heap.size 34 3 (.slice oa j oc) j (fltVals A) by have := HFO.out; unfold FltsO at this; rw [← HQ.out] at this; exact this)
            have M1 := hid (show j + 1 ≤ maxLen by unfold maxLen; omega)
            have M2 := hid (show (j + 1) * 24 ≤ 140737488355328 by omega)
            have M3 := hid (show w1.heap.size ≤ (wr.alloc (.cells (fltCells ⟨kind, row, pixel⟩).toArray 34)).heap.size by have := HBK.out.size; have := HBJ.out.size; simp; omega)
            go_wp2_with (at_builtin; refine wpList_app _ rfl (.tmp 35) (.tmp 37) 39 rfl w1.heap.size 34 (.agg #[.int .i64 0, .int .i64 0, .int .i64 0]) 3 24 Tryd.underlying39 info_fault rfl (by decide) (.slice oa j oc) j _ rfl (HOw.out.alloc _) (some ⟨wr.heap.size, 0, none⟩) 1 1 (fltCells ⟨kind, row, pixel⟩) rfl rfl no_none (flt_newsA wr ⟨kind, row, pixel⟩ _) (flt_one _) M1.out M2.out M3.out ?_; refine Stop.of ?_)
            refine Stop.go ?_
            intro a3 c3 w3 own3 g3
            have hb3 : Below w1.heap.size w1 w3 := ((chain HBK.out HBJ.out).alloc (by have := HBK.out.size; have := HBJ.out.size; omega) _).grown g3 M3.out (fun q hq => (HOw.out.lt q hq).1)
            go_wp2
            refine ⟨⟨k + 1, by omega, by go_num, ?_, hb3⟩, by simp [intOf]; omega⟩
            rw [HTO2.out, if_neg (by simp)]
            exact FltsO.snoc HQ.out.symm own3
          · go_wp2
            refine ⟨⟨k + 1, by omega, by go_num, ?_, chain HBK.out HBJ.out⟩, by simp [intOf]; omega⟩
            rw [HTO2.out, if_pos rfl]
            exact HFO.out
    · obtain rfl : k = L := by omega
      rw [List.take_of_length_le (by rw [← HL.out]; exact Nat.le_refl _)] at hF
      go_wp2
      go_ret
      exact ⟨_, w1.heap.size, rfl, HB1.out.size, hF, chain HB1.out hbk⟩
end Go.Proofs.YthaampmdponhbaaDoor

namespace Go.Proofs.YthaampmdponhbaaDoor
open Go.RowKit
set_option linter.unusedVariables false

theorem fltBox2 (w : World) (f g : Flt) : ∃ wg, wg = (w.alloc (.cells #[.int .i64 f.kind, .int .i64 f.row, .int .i64 f.pixel] 34)).alloc (.cells #[.int .i64 g.kind, .int .i64 g.row, .int .i64 g.pixel] 34) ∧ Below w.heap.size w wg ∧
    (∀ W, Below wg.heap.size wg W → (W.cell? ⟨w.heap.size, 0, none⟩ = some (.int .i64 f.kind) ∧ W.cell? ⟨w.heap.size, 1, none⟩ = some (.int .i64 f.row) ∧ W.cell? ⟨w.heap.size, 2, none⟩ = some (.int .i64 f.pixel)) ∧ W.cell? ⟨w.heap.size + 1, 0, none⟩ = some (.int .i64 g.kind) ∧ W.cell? ⟨w.heap.size + 1, 1, none⟩ = some (.int .i64 g.row) ∧ W.cell? ⟨w.heap.size + 1, 2, none⟩ = some (.int .i64 g.pixel)) := by
  obtain ⟨wf, hwf, hb0, hc0⟩ := fltBox w f
  obtain ⟨wg, hwg, hb1, hc1⟩ := fltBox wf g
  have hs : wf.heap.size = w.heap.size + 1 := by rw [hwf]; simp
  rw [hs] at hc1
  refine ⟨wg, by rw [hwg, hwf], chain hb0 hb1, fun W hb => ⟨(hc0 W (chain hb1 hb)).2, (hc1 W hb).2⟩⟩

end Go.Proofs.YthaampmdponhbaaDoor

namespace Go.Proofs.YthaampmdponhbaaDoor
open Go.RowKit
set_option linter.unusedVariables false

structure Tst where
  shown : List Int
  read : List Int
deriving DecidableEq

def TstV (w : World) (v : Value) (t : Tst) : Prop :=
  ∃ sa sn sc ra rn rc, v = .agg #[.slice sa sn sc, .slice ra rn rc] ∧ t.shown.length = sn ∧ sn ≤ maxLen ∧ IntsAt w sa t.shown ∧ t.read.length = rn ∧ rn ≤ maxLen ∧ IntsAt w ra t.read
theorem TstV.below {w w' : World} {v : Value} {t : Tst} (h : TstV w v t) (hb : Below w.heap.size w w') : TstV w' v t := by
  obtain ⟨sa, sn, sc, ra, rn, rc, e, h1, h2, h3, h4, h5, h6⟩ := h
  exact ⟨sa, sn, sc, ra, rn, rc, e, h1, h2, h3.below hb, h4, h5, h6.below hb⟩

def TestsAt (w : World) (a : Option Addr) (l : List Tst) : Prop :=
  ∀ j (hj : j < l.length), ∃ b off sa sn sc ra rn rc, a = some ⟨b, off, none⟩ ∧ b < w.heap.size ∧ w.cell? ⟨b, off + j * 2, none⟩ = some (.slice sa sn sc) ∧ w.cell? ⟨b, off + j * 2 + 1, none⟩ = some (.slice ra rn rc) ∧
    l[j].shown.length = sn ∧ sn ≤ maxLen ∧ IntsAt w sa l[j].shown ∧ l[j].read.length = rn ∧ rn ≤ maxLen ∧ IntsAt w ra l[j].read
theorem TestsAt.below {w w' : World} {a : Option Addr} {l : List Tst} (h : TestsAt w a l) (hb : Below w.heap.size w w') : TestsAt w' a l := by
  intro j hj
  obtain ⟨b, off, sa, sn, sc, ra, rn, rc, e, hlt, c0, c1, h1, h2, h3, h4, h5, h6⟩ := h j hj
  exact ⟨b, off, sa, sn, sc, ra, rn, rc, e, Nat.lt_of_lt_of_le hlt hb.size, (hb.cell (p := ⟨b, _, none⟩) hlt).trans c0, (hb.cell (p := ⟨b, _, none⟩) hlt).trans c1, h1, h2, h3.below hb, h4, h5, h6.below hb⟩

end Go.Proofs.YthaampmdponhbaaDoor

namespace Go.Proofs.YthaampmdponhbaaDoor
open Go.RowKit
set_option linter.unusedVariables false

def lenTo (M : Mask) : Nat → Int
  | 0 => 0
  | k + 1 => wrap64 (lenTo M k + (M[k]?.getD []).length)
def smallB (M : Mask) : Bool := fitM M && decide (lenTo M M.length ≤ 20)

theorem small_c (w : World) (a : Option Addr) (n cap : Nat) (M : Mask) (hn : M.length = n) (hm : n ≤ maxLen) (H : RowsAt w a M) :
    Calls Tryd.prog 14 #[.slice a n cap] w fun e w' => e = .returned (.bool (smallB M)) ∧ w = w' := by
  have HF := hid (fit_c w a n cap M hn hm H)
  have HN := hid hn
  have HH := hid H
  unfold maxLen at hm
  clear hn H
  go_enter Tryd.func14, Tryd.ntmps14
  go_wp2
  go_loop [3, 8] (fun s i => ∃ k : Nat, k ≤ n ∧ i = .int .i64 k ∧ s = .int .i64 (lenTo M k)) (fun _ i => n - (intOf i).toNat)
  case atStart => exact ⟨0, Nat.zero_le _, rfl, rfl⟩
  case round =>
    obtain ⟨k, hk, rfl, rfl⟩ := hrel
    by_cases hlt : k < n
    · have hkM : k < M.length := by rw [HN.out]; exact hlt
      obtain ⟨b, off, ra, rn, rc, rfl, hbs, hc, hrn, hrm, hri⟩ := HH.out k hkM
      have hs : lenTo M (k + 1) = wrap64 (lenTo M k + (rn : Int)) := by rw [← hrn]; show wrap64 _ = _; rw [List.getElem?_eq_getElem hkM]; rfl
      have HS := hid hs
      obtain ⟨S, hS⟩ : ∃ S, S = lenTo M k := ⟨_, rfl⟩
      rw [← hS] at HS ⊢
      clear hri hrn hs hS
      go_wp2
      go_round
      case rel => exact ⟨k + 1, by omega, by go_num, by rw [HS.out]⟩
      case measure => simp [intOf]; omega
    · obtain rfl : k = n := by omega
      have HE := hid (show smallB M = (fitM M && decide (lenTo M k ≤ 20)) by unfold smallB; rw [HN.out])
      obtain ⟨S, hS⟩ : ∃ S, S = lenTo M k := ⟨_, rfl⟩
      rw [← hS] at HE ⊢
      clear hS
      cases h1 : fitM M
      · rw [h1] at HF HE
        clear h1
        go_wp2_with (go_at_call 8; refine HF.out.mono ?_; rintro e w1 ⟨rfl, rfl⟩)
        go_ret
        exact ⟨ret_bool (by rw [HE.out]; rfl), rfl⟩
      · rw [h1] at HF HE
        clear h1
        go_wp2_with (go_at_call 8; refine HF.out.mono ?_; rintro e w1 ⟨rfl, rfl⟩)
        go_ret
        exact ⟨ret_bool (by rw [HE.out, Bool.true_and]), rfl⟩

def fitL (L : List (List Int)) (most : Int) : Bool := L.all (fun x => decide (x.length ≤ 20)) && (decide ((L.length : Int) ≤ most) || (decide (12 < L.length) && decide (L.length < 15)))
theorem lists_c (w : World) (a2 : Option Addr) (n2 cap2 : Nat) (L : List (List Int)) (hn2 : L.length = n2) (hm2 : n2 ≤ maxLen) (H2 : RowsAt w a2 L) (most : Nat) (hmost : most ≤ 12) :
    Calls Tryd.prog 15 #[.slice a2 n2 cap2, .int .i64 most] w fun e w' => e = .returned (.bool (fitL L most)) ∧ w = w' := by
  have HN2 := hid hn2
  have HH2 := hid H2
  have HE := hid (show fitL L most = (L.all (fun x => decide (x.length ≤ 20)) && (decide ((n2 : Int) ≤ most) || (decide (12 < n2) && decide (n2 < 15)))) by unfold fitL; rw [hn2])
  unfold maxLen at hm2
  clear hn2 H2
  go_enter Tryd.func15, Tryd.ntmps15
  go_wp2
  go_loop [9] (fun i => ∃ k : Nat, k ≤ n2 ∧ i = .int .i64 k ∧ Hid (∀ j (hj : j < L.length), j < k → decide (L[j].length ≤ 20) = true)) (fun i => n2 - (intOf i).toNat)
  case atStart => exact ⟨0, Nat.zero_le _, rfl, hid (fun j _ h => by omega)⟩
  case round =>
    obtain ⟨k, hk, rfl, hno⟩ := hrel
    by_cases hlt : k < n2
    · have hkl : k < L.length := by rw [HN2.out]; exact hlt
      obtain ⟨b, off, ra, rn, rc, rfl, hbs, hc, hrn, hrm, hri⟩ := HH2.out k hkl
      have HRN := hid hrn
      have HKL := hid hkl
      unfold maxLen at hrm
      clear hrn hri
      by_cases h20 : rn ≤ 20
      · go_wp2
        go_round
        case rel => exact ⟨k + 1, by omega, by go_num, hid (fun j hj hjk => by
          rcases Nat.lt_or_ge j k with h | h
          · exact hno.out j hj h
          · obtain rfl : j = k := by omega
            rw [HRN.out]; simpa using h20)⟩
        case measure => simp [intOf]; omega
      · go_wp2
        go_ret
        exact ⟨ret_bool (by rw [HE.out, all_stop (p := fun x : List Int => decide (x.length ≤ 20)) HKL.out (by rw [HRN.out]; simpa using h20)]; rfl), rfl⟩
    · obtain rfl : k = n2 := by omega
      have hall : L.all (fun x => decide (x.length ≤ 20)) = true := all_done (fun j hj => hno.out j hj (by rw [← HN2.out]; exact hj))
      have HE2 := hid (show fitL L most = (decide ((k : Int) ≤ most) || (decide (12 < k) && decide (k < 15))) by rw [HE.out, hall, Bool.true_and])
      clear hall hno
      by_cases h1 : k ≤ most
      · have h1' : (k : Int) ≤ (most : Int) := by omega
        go_wp2
        go_ret
        exact ⟨ret_bool (by rw [HE2.out, Bool.eq_iff_iff]; simp; omega), rfl⟩
      · have h1' : ¬ (k : Int) ≤ (most : Int) := by omega
        by_cases h2 : 12 < k
        · have h2' : (12 : Int) < (k : Int) := by omega
          go_wp2
          go_ret
          exact ⟨ret_bool (by rw [HE2.out, Bool.eq_iff_iff]; simp; omega), rfl⟩
        · have h2' : ¬ (12 : Int) < (k : Int) := by omega
          go_wp2
          go_ret
          exact ⟨ret_bool (by rw [HE2.out, Bool.eq_iff_iff]; simp; omega), rfl⟩

theorem refShown_c (w : World) (a : Option Addr) (n cap : Nat) (M : Mask) (hn : M.length = n) (hm : n ≤ maxLen) (H : RowsAt w a M) (a2 : Option Addr) (n2 cap2 : Nat) (L : List (List Int)) (hn2 : L.length = n2) (hm2 : n2 ≤ maxLen) (H2 : RowsAt w a2 L) :
    Calls Tryd.prog 46 #[.slice a n cap, .slice a2 n2 cap2] w fun e w' => e = .returned (.bool (picsB M L)) ∧ w = w' := by
  have HSh := hid (fun (xa : Option Addr) (xn xc : Nat) (x : List Int) (hx : x.length = xn) (hxm : xn ≤ maxLen) (hxi : IntsAt w xa x) => r2Shown_c w a n cap M hn hm H xa xn xc x hx hxm hxi)
  have HN2 := hid hn2
  have HH2 := hid H2
  have HE := hid (show picsB M L = (decide (n2 ≤ 12) && L.all (okShown M)) by unfold picsB; rw [hn2])
  unfold maxLen at hm2
  clear hn2 H2 hn H
  go_enter Tryd.func46, Tryd.ntmps46
  go_wp2
  go_loop [9] (fun i => ∃ k : Nat, k ≤ n2 ∧ i = .int .i64 k ∧ Hid (∀ j (hj : j < L.length), j < k → okShown M L[j] = true)) (fun i => n2 - (intOf i).toNat)
  case atStart => exact ⟨0, Nat.zero_le _, rfl, hid (fun j _ h => by omega)⟩
  case round =>
    obtain ⟨k, hk, rfl, hno⟩ := hrel
    by_cases hlt : k < n2
    · have hkl : k < L.length := by rw [HN2.out]; exact hlt
      obtain ⟨b, off, ra, rn, rc, rfl, hbs, hc, hrn, hrm, hri⟩ := HH2.out k hkl
      have HS := hid (HSh.out ra rn rc L[k] hrn hrm hri)
      have HKL := hid hkl
      clear hrn hri
      cases h : okShown M (L[k]'hkl)
      · rw [h] at HS
        have HX := hid h
        clear h
        go_wp2_with (go_at_call 59; refine HS.out.mono ?_; rintro e w1 ⟨rfl, rfl⟩)
        go_ret
        exact ⟨ret_bool (by rw [HE.out, all_stop HKL.out HX.out]; simp), rfl⟩
      · rw [h] at HS
        have HX := hid h
        clear h
        go_wp2_with (go_at_call 59; refine HS.out.mono ?_; rintro e w1 ⟨rfl, rfl⟩)
        go_round
        case rel => exact ⟨k + 1, by omega, by go_num, hid (fun j hj hjk => by
          rcases Nat.lt_or_ge j k with h | h
          · exact hno.out j hj h
          · obtain rfl : j = k := by omega
            exact HX.out)⟩
        case measure => simp [intOf]; omega
    · obtain rfl : k = n2 := by omega
      have hall : L.all (okShown M) = true := all_done (fun j hj => hno.out j hj (by rw [← HN2.out]; exact hj))
      have HE2 := hid (show picsB M L = decide (k ≤ 12) by rw [HE.out, hall, Bool.and_true])
      clear hall hno
      go_wp2
      go_ret
      exact ⟨ret_bool (by rw [HE2.out, Bool.eq_iff_iff]; simp; omega), rfl⟩

theorem asked_c (w : World) (a : Option Addr) (n cap : Nat) (M : Mask) (hn : M.length = n) (hm : n ≤ maxLen) (H : RowsAt w a M) (a2 : Option Addr) (n2 cap2 : Nat) (L : List (List Int)) (hn2 : L.length = n2) (hm2 : n2 ≤ maxLen) (H2 : RowsAt w a2 L) :
    Calls Tryd.prog 48 #[.slice a n cap, .slice a2 n2 cap2] w fun e w' => e = .returned (.int .i64 (listedE M L)) ∧ w = w' := by
  have HV := hid (r2Valid_c w a n cap M hn hm H)
  have HS := hid (refShown_c w a n cap M hn hm H a2 n2 cap2 L hn2 hm2 H2)
  clear hn H hn2 H2
  cases h1 : okM M
  · have HE := hid (show listedE M L = 1 by unfold listedE; rw [h1]; rfl)
    rw [h1] at HV
    clear h1
    go_enter Tryd.func48, Tryd.ntmps48
    go_wp2_with (go_at_call 41; refine HV.out.mono ?_; rintro e w1 ⟨rfl, rfl⟩)
    go_ret
    exact ⟨ret_int (by rw [HE.out]), rfl⟩
  · cases h2 : picsB M L
    · have HE := hid (show listedE M L = 7 by unfold listedE; rw [h1, h2]; rfl)
      rw [h1] at HV
      rw [h2] at HS
      clear h1 h2
      go_enter Tryd.func48, Tryd.ntmps48
      go_wp2_with (first | (go_at_call 41; refine HV.out.mono ?_; rintro e w1 ⟨rfl, rfl⟩) | (go_at_call 46; refine HS.out.mono ?_; rintro e w1 ⟨rfl, rfl⟩))
      go_ret
      exact ⟨ret_int (by rw [HE.out]), rfl⟩
    · have HE := hid (show listedE M L = 0 by unfold listedE; rw [h1, h2]; rfl)
      rw [h1] at HV
      rw [h2] at HS
      clear h1 h2
      go_enter Tryd.func48, Tryd.ntmps48
      go_wp2_with (first | (go_at_call 41; refine HV.out.mono ?_; rintro e w1 ⟨rfl, rfl⟩) | (go_at_call 46; refine HS.out.mono ?_; rintro e w1 ⟨rfl, rfl⟩))
      go_ret
      exact ⟨ret_int (by rw [HE.out]), rfl⟩
end Go.Proofs.YthaampmdponhbaaDoor

namespace Go.Proofs.YthaampmdponhbaaDoor
open Go.RowKit
set_option linter.unusedVariables false

theorem sameInts_d (W : World) (a a2 : Option Addr) (n n2 cap cap2 : Nat) (l l2 : List Int) (D : Bool) (hn : l.length = n) (hn2 : l2.length = n2) (hm : n ≤ maxLen) (hm2 : n2 ≤ maxLen) (H : IntsAt W a l) (H2 : IntsAt W a2 l2) (hD : D = decide (l = l2)) :
    Calls Tryd.prog 12 #[.slice a n cap, .slice a2 n2 cap2] W fun e w' => e = .returned (.bool D) ∧ Below W.heap.size W w' := by
  subst hD
  exact (sameInts_c W a a2 n cap n2 cap2 l l2 hn hn2 hm hm2 H H2).mono fun e w' ⟨h1, k, h2⟩ => ⟨h1, by rw [h2]; exact below_drewN (Below.refl _ _) _⟩

theorem refReads_v (w : World) (a : Option Addr) (n cap : Nat) (M : Mask) (hn : M.length = n) (H : RowsAt w a M) (hM : okM M = true) (f : Flt) (hf : okF M f = true) (a2 : Option Addr) (n2 cap2 : Nat) (x : List Int) (hn2 : x.length = n2) (H2 : IntsAt w a2 x) (hx : okShown M x = true) :
    Calls Tryd.prog 62 #[.slice a n cap, f.val, .slice a2 n2 cap2] w fun e w' => ∃ va vc, e = .returned (.slice va n vc) ∧ IntsAt w' va (readF M f x) ∧ Below w.heap.size w w' :=
  (refReads_c w a n cap M hn H hM f hf a2 n2 cap2 x hn2 H2 hx).mono fun e w' ⟨v, base, he, _, hown, hb⟩ => by
    obtain ⟨va, vc, hv, hI⟩ := ints_own hown (by rw [readF_length, hn])
    exact ⟨va, vc, by rw [he, hv], hI, hb⟩

theorem sameR_stop {M : Mask} {L : List (List Int)} {f g : Flt} {k : Nat} (hk : k < L.length) (h : readF M f L[k] ≠ readF M g L[k]) : sameR M L f g = false := by
  unfold sameR
  exact all_stop hk (by simpa using h)
theorem sameR_done {M : Mask} {L : List (List Int)} {f g : Flt} (h : ∀ j (hj : j < L.length), readF M f L[j] = readF M g L[j]) : sameR M L f g = true := by
  unfold sameR
  exact all_done (fun j hj => by simpa using h j hj)

set_option maxRecDepth 100000 in
set_option maxHeartbeats 2000000 in
theorem refPart_c (w : World) (a : Option Addr) (n cap : Nat) (M : Mask) (hn : M.length = n) (H : RowsAt w a M) (hM : okM M = true) (f g : Flt) (hf : okF M f = true) (hg : okF M g = true) (a2 : Option Addr) (n2 cap2 : Nat) (L : List (List Int)) (hn2 : L.length = n2) (hm2 : n2 ≤ maxLen) (H2 : RowsAt w a2 L) (hx : ∀ x ∈ L, okShown M x = true) :
    Calls Tryd.prog 47 #[.slice a n cap, f.val, g.val, .slice a2 n2 cap2] w fun e w' => e = .returned (.bool (!sameR M L f g)) ∧ Below w.heap.size w w' := by
  obtain ⟨wg, hwg, hb0, hcells⟩ := fltBox2 w f g
  have HF := hid (fun (W : World) (hb : Below wg.heap.size wg W) (xa : Option Addr) (xn xc : Nat) (x : List Int) (hxL : x ∈ L) (hxn : x.length = xn) (hxi : IntsAt W xa x) => refReads_v W a n cap M hn (H.below (chain hb0 hb)) hM f hf xa xn xc x hxn hxi (hx x hxL))
  have HG := hid (fun (W : World) (hb : Below wg.heap.size wg W) (xa : Option Addr) (xn xc : Nat) (x : List Int) (hxL : x ∈ L) (hxn : x.length = xn) (hxi : IntsAt W xa x) => refReads_v W a n cap M hn (H.below (chain hb0 hb)) hM g hg xa xn xc x hxn hxi (hx x hxL))
  have HSI := hid (fun (W : World) (x : List Int) (a4 a5 : Option Addr) (c4 c5 : Nat) (h4 : IntsAt W a4 (readF M f x)) (h5 : IntsAt W a5 (readF M g x)) => sameInts_d W a4 a5 n n c4 c5 _ _ _ (by rw [readF_length, hn]) (by rw [readF_length, hn]) (by have := (okM_len hM).2.1; unfold maxLen; omega) (by have := (okM_len hM).2.1; unfold maxLen; omega) h4 h5 rfl)
  have HST := hid (fun k hk h => @sameR_stop M L f g k hk h)
  have HDN := hid (@sameR_done M L f g)
  have HN2 := hid hn2
  have HH2 := hid (H2.below hb0)
  have HC := hid hcells
  have HB0 := hid hb0
  have HWG := hid hwg
  unfold maxLen at hm2
  clear hn H hM hf hg hn2 H2 hx hcells hb0 hwg
  obtain ⟨R1, hR1⟩ : ∃ R, R = readF M f := ⟨_, rfl⟩
  obtain ⟨R2, hR2⟩ : ∃ R, R = readF M g := ⟨_, rfl⟩
  rw [← hR1, ← hR2] at HSI HST HDN
  rw [← hR1] at HF
  rw [← hR2] at HG
  obtain ⟨SR, hSR⟩ : ∃ R, R = sameR M L f g := ⟨_, rfl⟩
  rw [← hSR] at HST HDN ⊢
  clear hR1 hR2 hSR
  obtain ⟨kind, row, pixel⟩ := f
  obtain ⟨gk, gr, gp⟩ := g
  simp only [Flt.val] at HF HG HC HWG ⊢
  have hw := HWG.out
  go_enter Tryd.func47, Tryd.ntmps47
  go_wp2
  rw [← hw]
  clear hw
  go_loopw [13] (fun i wr => ∃ k : Nat, k ≤ n2 ∧ i = .int .i64 k ∧ Below wg.heap.size wg wr ∧ Hid (∀ j (hj : j < L.length), j < k → R1 L[j] = R2 L[j])) (fun i _ => n2 - (intOf i).toNat)
  case atStart => exact ⟨0, Nat.zero_le _, rfl, Below.refl _ _, hid (fun j _ h => by omega)⟩
  case round =>
    obtain ⟨k, hk, rfl, hbk, hno⟩ := hrel
    by_cases hlt : k < n2
    · have hkl : k < L.length := by rw [HN2.out]; exact hlt
      obtain ⟨b, off, xa, xn, xc, rfl, hbs, hc, hxn, hxm, hxi⟩ := (HH2.out.below hbk) k hkl
      have hmem := List.getElem_mem hkl
      obtain ⟨x, hx⟩ : ∃ x, x = L[k]'hkl := ⟨_, rfl⟩
      rw [← hx] at hxn hxi hmem
      have HF1 := hid (fun (W : World) (hb : Below wr.heap.size wr W) => HF.out W (chain hbk hb) xa xn xc x hmem hxn (hxi.below hb))
      have HG1 := hid (fun (W : World) (hb : Below wr.heap.size wr W) => HG.out W (chain hbk hb) xa xn xc x hmem hxn (hxi.below hb))
      have HS1 := hid (HSI.out)
      have HKL := hid hkl
      have HX := hid hx
      have HBK := hid hbk
      have HC1 := hid (fun (W : World) (hb : Below wr.heap.size wr W) => HC.out W (chain hbk hb))
      obtain ⟨D, hD⟩ : ∃ D, D = decide (R1 x = R2 x) := ⟨_, rfl⟩
      have HSM := hid (fun (W : World) (a4 a5 : Option Addr) (c4 c5 : Nat) (h4 : IntsAt W a4 (R1 x)) (h5 : IntsAt W a5 (R2 x)) => show Calls Tryd.prog 12 #[.slice a4 n c4, .slice a5 n c5] W fun e w' => e = Ending.returned (.bool D) ∧ Below W.heap.size W w' from by
        rw [hD]; exact HSI.out W x a4 a5 c4 c5 h4 h5)
      have HD := hid hD
      clear hxn hxi hmem hx hbk hD HS1
      go_wp2
      refine plain_region (fun j W => (fun _ : Nat => true) j = true → ((W.cell? ⟨w.heap.size, 0, none⟩ = some (.int .i64 kind) ∧ W.cell? ⟨w.heap.size, 1, none⟩ = some (.int .i64 row) ∧ W.cell? ⟨w.heap.size, 2, none⟩ = some (.int .i64 pixel)) ∧ W.cell? ⟨w.heap.size + 1, 0, none⟩ = some (.int .i64 gk) ∧ W.cell? ⟨w.heap.size + 1, 1, none⟩ = some (.int .i64 gr) ∧ W.cell? ⟨w.heap.size + 1, 2, none⟩ = some (.int .i64 gp))) (by kernel_rfl) ?_
      have hbd : Below wr.heap.size wr wr.drew := (Below.refl _ _).drew
      generalize wr.drew = wd at hbd ⊢
      refine AnyT.takeW (i := 0) (v := .slice a n cap) rfl (by kernel_rfl) (by kernel_rfl) (by kernel_rfl) (by first | exact (fun _ _ _ h => h) | exact (fun _ _ _ h => absurd h.1 (by simp))) (by kernel_rfl) (by rfl) (by rintro w' hw'; go_simp) (HC1.out _ hbd) ?_
      refine AnyT.takeW (i := 1) (v := .agg #[.int .i64 kind, .int .i64 row, .int .i64 pixel]) rfl (by kernel_rfl) (by kernel_rfl) (by kernel_rfl) (by first | exact (fun _ _ _ h => h) | exact (fun _ _ _ h => absurd h.1 (by simp))) (by kernel_rfl) (by rfl) (by rintro w' ⟨⟨q0, q1, q2⟩, q3, q4, q5⟩; go_simp) (HC1.out _ hbd) ?_
      refine AnyT.takeW (i := 2) (v := .slice xa xn xc) rfl (by kernel_rfl) (by kernel_rfl) (by kernel_rfl) (by first | exact (fun _ _ _ h => h) | exact (fun _ _ _ h => absurd h.1 (by simp))) (by kernel_rfl) (by rfl) (by rintro w' hw'; go_simp) (HC1.out _ hbd) ?_
      refine AnyT.takeW (i := 4) (v := .slice a n cap) rfl (by kernel_rfl) (by kernel_rfl) (by kernel_rfl) (by first | exact (fun _ _ _ h => h) | exact (fun _ _ _ h => absurd h.1 (by simp))) (by kernel_rfl) (by rfl) (by rintro w' hw'; go_simp) (HC1.out _ hbd) ?_
      refine AnyT.takeW (i := 5) (v := .agg #[.int .i64 gk, .int .i64 gr, .int .i64 gp]) rfl (by kernel_rfl) (by kernel_rfl) (by kernel_rfl) (by first | exact (fun _ _ _ h => h) | exact (fun _ _ _ h => absurd h.1 (by simp))) (by kernel_rfl) (by rfl) (by rintro w' ⟨⟨q0, q1, q2⟩, q3, q4, q5⟩; go_simp) (HC1.out _ hbd) ?_
      refine AnyT.takeW (i := 6) (v := .slice xa xn xc) rfl (by kernel_rfl) (by kernel_rfl) (by kernel_rfl) (by first | exact (fun _ _ _ h => h) | exact (fun _ _ _ h => absurd h.1 (by simp))) (by kernel_rfl) (by rfl) (by rintro w' hw'; go_simp) (HC1.out _ hbd) ?_
      refine AnyT.next (i := 3) (by kernel_rfl) rfl (wpOp_of_list rfl ?_)
      go_wp2_with (go_at_call 62; refine (HF1.out _ hbd).mono ?_; rintro e w4 ⟨a4, c4, rfl, hA4, hbl4⟩; refine Stop.of ?_)
      refine Stop.go ?_
      have hw4 := chain hbd hbl4
      go_wp2
      refine ⟨fun _ => HC1.out _ hw4, ?_⟩
      refine AnyT.next (i := 7) (by kernel_rfl) rfl (wpOp_of_list rfl ?_)
      go_wp2_with (go_at_call 62; refine (HG1.out _ hw4).mono ?_; rintro e w5 ⟨a5, c5, rfl, hA5, hbl5⟩; refine Stop.of ?_)
      refine Stop.go ?_
      have hw5 := chain hw4 hbl5
      go_wp2
      refine ⟨fun _ => HC1.out _ hw5, ?_⟩
      refine AnyT.next (i := 8) (by kernel_rfl) rfl (wpOp_of_list rfl ?_)
      go_wp2_with (go_at_call 12; refine (HSM.out w5 a4 a5 c4 c5 (hA4.below hbl5) hA5).mono ?_; rintro e w6 ⟨rfl, hbl6⟩; refine Stop.of ?_)
      refine Stop.go ?_
      have hw6 := chain hw5 hbl6
      have HW6 := hid hw6
      clear hA4 hA5 hw4 hw5 hw6 hbl4 hbl5 hbl6
      go_wp2
      refine ⟨fun _ => HC1.out _ HW6.out, ?_⟩
      refine AnyT.next (i := 9) (by kernel_rfl) rfl (wpOp_of_list rfl ?_)
      go_wp2
      refine ⟨fun _ => HC1.out _ HW6.out, ?_⟩
      refine AnyT.done (by kernel_rfl) ?_ _
      cases D
      · go_wp2
        go_ret
        refine ⟨ret_bool ?_, HB0.out.trans ((HBK.out.trans (HW6.out.mono HBK.out.size)).mono HB0.out.size)⟩
        rw [HST.out k HKL.out (by rw [← HX.out]; exact of_decide_eq_false HD.out.symm)]; rfl
      · go_wp2
        refine ⟨⟨k + 1, by omega, by go_num, HBK.out.trans (HW6.out.mono HBK.out.size), hid (fun j hj hjk => ?_)⟩, by simp [intOf]; omega⟩
        rcases Nat.lt_or_ge j k with h | h
        · exact hno.out j hj h
        · obtain rfl : j = k := by omega
          rw [← HX.out]
          exact of_decide_eq_true HD.out.symm
    · obtain rfl : k = n2 := by omega
      go_wp2
      go_ret
      refine ⟨ret_bool ?_, chain HB0.out hbk⟩
      rw [HDN.out (fun j hj => hno.out j hj (by rw [← HN2.out]; exact hj))]; rfl
end Go.Proofs.YthaampmdponhbaaDoor

namespace Go.Proofs.YthaampmdponhbaaDoor
open Go.RowKit
set_option linter.unusedVariables false

def wAll (_ : Nat) : Bool := true

theorem AnyT.takeD {P : Program} {md : Region.Mode} {ops : Array Oper} {Q : Exit → Act → World → Prop} {S : World → Prop} {i d : Nat} {oi : Oper} {v : Value} {fuel : Nat} {listed : Array Bool} {a : Act} {w : World} {Wf : Nat → Bool} (hi : ops[i]? = some oi) (hd : oi.dst = some d)
    (hs : Region.noSelect ops = true) (hf : Region.free md ops listed i = true) (hr : (Region.ready md ops listed).contains i = true)
    (hQ : ∀ c a w, Q (.panic c) (a.put (some d) v) w → Q (.panic c) a w)
    (hW : (List.range ops.size).all (fun j => waits md ops i j || Wf j) = true) (hw : Region.wanted oi (yielded ops a.tmps) = true) (hy : ∀ w, S w → (execOp a.eval oi).run P w = .ok (.value v) w) (hS : S w)
    (h : AnyT P md ops Q (fun j w => Wf j = true → S w) fuel (listed.setIfInBounds i true) (a.put (some d) v) w) : AnyT P md ops Q (fun j w => Wf j = true → S w) (fuel + 1) listed a w :=
  AnyT.takeW hi hs hf hr (by rw [hd]; exact hQ) hW hw hy hS (by rw [hd]; exact h)
end Go.Proofs.YthaampmdponhbaaDoor

namespace Go.Proofs.YthaampmdponhbaaDoor
open Go.RowKit
set_option linter.unusedVariables false

def HeadV (W : World) (xs : List Value) (L : List (List Int)) : Prop :=
  xs.length = L.length ∧ ∀ j (hj : j < L.length), ∃ ra rn rc, xs[j]? = some (.slice ra rn rc) ∧ L[j].length = rn ∧ rn ≤ maxLen ∧ IntsAt W ra L[j]
theorem HeadV.nil (W : World) : HeadV W [] [] := ⟨rfl, fun j hj => by simp at hj⟩
theorem HeadV.below {W W' : World} {xs : List Value} {L : List (List Int)} (h : HeadV W xs L) (hb : Below W.heap.size W W') : HeadV W' xs L :=
  ⟨h.1, fun j hj => by obtain ⟨ra, rn, rc, h1, h2, h3, h4⟩ := h.2 j hj; exact ⟨ra, rn, rc, h1, h2, h3, h4.below hb⟩⟩
theorem HeadV.one {W : World} {ra : Option Addr} {rn rc : Nat} {l : List Int} (hn : l.length = rn) (hm : rn ≤ maxLen) (h : IntsAt W ra l) : HeadV W [.slice ra rn rc] [l] :=
  ⟨rfl, fun j hj => by
    obtain rfl : j = 0 := by simp at hj; omega
    exact ⟨ra, rn, rc, rfl, hn, hm, h⟩⟩
theorem HeadV.append {W : World} {xs ys : List Value} {L K : List (List Int)} (h : HeadV W xs L) (k : HeadV W ys K) : HeadV W (xs ++ ys) (L ++ K) := by
  refine ⟨by simp [h.1, k.1], fun j hj => ?_⟩
  by_cases e : j < L.length
  · obtain ⟨ra, rn, rc, h1, h2, h3, h4⟩ := h.2 j e
    refine ⟨ra, rn, rc, by rw [List.getElem?_append_left (by rw [h.1]; exact e)]; exact h1, ?_, h3, ?_⟩
    · rw [List.getElem_append_left e]; exact h2
    · rw [List.getElem_append_left e]; exact h4
  · have hj2 : j - L.length < K.length := by simp at hj; omega
    obtain ⟨ra, rn, rc, h1, h2, h3, h4⟩ := k.2 (j - L.length) hj2
    refine ⟨ra, rn, rc, by rw [List.getElem?_append_right (by rw [h.1]; omega), h.1]; exact h1, ?_, h3, ?_⟩
    · rw [List.getElem_append_right (by omega)]; exact h2
    · rw [List.getElem_append_right (by omega)]; exact h4
theorem heads_of_rows {W : World} {a : Option Addr} {L : List (List Int)} (H : RowsAt W a L) : ∃ xs, HeadV W xs L ∧ (∀ ad, a = some ad → ∀ j u, xs[j]? = some u → W.cell? (ad.add j) = some u) ∧ (a = none → L.length = 0) := by
  cases a with
  | none =>
    have h0 : L.length = 0 := by
      rcases Nat.eq_zero_or_pos L.length with h | h
      · exact h
      · obtain ⟨_, _, _, _, _, e, _⟩ := H 0 h; cases e
    have : L = [] := List.eq_nil_of_length_eq_zero h0
    subst this
    exact ⟨[], HeadV.nil W, fun ad e => (by cases e), fun _ => rfl⟩
  | some ad =>
    refine ⟨(List.range L.length).map fun i => (W.cell? (ad.add i)).getD undef, ⟨by simp, fun j hj => ?_⟩, fun ad' e j u hu => ?_, fun e => (by cases e)⟩
    · obtain ⟨b, off, ra, rn, rc, e, hb, h0, h1, h2, h3⟩ := H j hj
      cases e
      refine ⟨ra, rn, rc, ?_, h1, h2, h3⟩
      rw [List.getElem?_map, List.getElem?_range hj]; simp [Addr.add_lit, h0]
    · cases e
      rw [List.getElem?_map] at hu
      obtain ⟨i, hi, rfl⟩ := Option.map_eq_some_iff.1 hu
      obtain ⟨hlt, e2⟩ := List.getElem?_eq_some_iff.1 hi
      simp at e2 hlt
      subst e2
      obtain ⟨b, off, ra, rn, rc, e, hb, h0, _⟩ := H j hlt
      cases e
      rw [Addr.add_lit, h0]; rfl

theorem cell_in {w : World} {a : Addr} {v : Value} (h : w.cell? a = some v) : a.block < w.heap.size := by
  unfold World.cell? at h
  split at h
  · rename_i c _ _ hb
    exact (Array.getElem?_eq_some_iff.1 hb).1
  · simp at h
theorem rows_of_own {W : World} {base n c : Nat} {T : TypeId} {a : Option Addr} {xs : List Value} {L : List (List Int)} (h : W.ownsRow base T 1 (.slice a n c) n xs) (hv : HeadV W xs L) (hl : L.length = n) : RowsAt W a L := by
  intro j hj
  rcases h.2 with ⟨_, h0⟩ | ⟨g, cap, cur, e, hg, hh, rest⟩
  · omega
  · cases e
    have hlt := (Array.getElem?_eq_some_iff.1 hh).1
    have hc : W.cell? ⟨g, j, none⟩ = xs[j]? := World.ownsRow.cellAt (w := W) (base := base) (e := T) (size := 1) (g := g) (n := n) (cap := c) (xs := xs) h j (by omega)
    obtain ⟨ra, rn, rc, h1, h2, h3, h4⟩ := hv.2 j hj
    exact ⟨g, 0, ra, rn, rc, rfl, hlt, by rw [Nat.zero_add, hc]; exact h1, h2, h3, h4⟩

end Go.Proofs.YthaampmdponhbaaDoor

namespace Go.Proofs.YthaampmdponhbaaDoor
open Go.RowKit Go.Maps
set_option linter.unusedVariables false

theorem and_i64 {a b : Nat} (ha : a < 4096) (hb : b < 4096) : bits .and .i64 (a : Int) (b : Int) = ((a &&& b : Nat) : Int) :=
  (bits_nat .i64 12 (by decide) (fun n h0 h1 => IntWalk.i64_in _ (by simp at h1; omega)) a b (by omega) (by omega)).1
theorem or_i64 {a b : Nat} (ha : a < 4096) (hb : b < 4096) : bits .or .i64 (a : Int) (b : Int) = ((a ||| b : Nat) : Int) :=
  (bits_nat .i64 12 (by decide) (fun n h0 h1 => IntWalk.i64_in _ (by simp at h1; omega)) a b (by omega) (by omega)).2

def KeysB (D : DataW Unit) (ms : List Nat) : Prop := IsMap D ∧ (∀ m ∈ ms, Maps.has D (.int .i64 (m : Int)) = true) ∧ ∀ x : Int, Maps.has D (.int .i64 x) = true → ∃ m ∈ ms, x = (m : Int)
theorem KeysB.nil : KeysB (.map []) [] := ⟨⟨[], rfl⟩, fun m hm => by simp at hm, fun x hx => by cases hx⟩
theorem put_isMap {D : DataW Unit} (h : IsMap D) (k : Lit) (d : DataW Unit) : IsMap (D.put k d) := by
  obtain ⟨es, rfl⟩ := h
  exact ⟨_, rfl⟩
theorem KeysB.put {D : DataW Unit} {ms : List Nat} (h : KeysB D ms) (m : Nat) (d : DataW Unit) : KeysB (D.put (.int .i64 (m : Int)) d) (ms ++ [m]) := by
  refine ⟨put_isMap h.1 _ _, fun k hk => ?_, fun x hx => ?_⟩
  · by_cases e : k = m
    · subst e; exact has_put_same h.1 (show WideAt.IsKeyLit (.int .i64 (k : Int)) from trivial) _
    · rw [has_put_other (by intro h'; apply e; simp at h'; omega)]
      rcases List.mem_append.1 hk with hk | hk
      · exact h.2.1 k hk
      · simp at hk; exact absurd hk e
  · by_cases e : x = (m : Int)
    · exact ⟨m, by simp, e⟩
    · rw [has_put_other (by intro h'; apply e; simpa using h')] at hx
      obtain ⟨m', hm', e'⟩ := h.2.2 x hx
      exact ⟨m', by simp [hm'], e'⟩

theorem next_ib {P : Program} (w : World) {ops : Array Oper} {rest : List Oper} {o : Oper} {a : Act} {Q : Exit → Act → World → Prop} (hg : o.guard = none) (it : Operand) (hop : o.op = Op.next it false) (k e : TypeId) (K : Keyed P k) (hk : P.underlying k = some (.int .i64))
    (b r n : Nat) (D : DataW Unit) (left : Lit → Bool) (cnt : Nat) (hit : a.eval it = .pointer (some ⟨r, 0, none⟩)) (h : w.ranges P k (plainElem P e) b r n D left cnt)
    (hDone : Stop ((∀ kl, left kl = false) → wpList P ops Q rest (a.put o.dst (.tuple #[.bool false])) w))
    (hMore : Stop (∀ (x : Int) (c : Value) (w' : World) (cnt' : Nat), left (.int .i64 x) = true → w'.ranges P k (plainElem P e) b r n D (fun z => left z && !z.sameKey (.int .i64 x)) cnt' → cnt' < cnt →
      w.grownBy w' (some r) → w'.heap.size = w.heap.size → (Instr.entry (.pointer (some ⟨r, 0, none⟩))).run P w' = .ok (.tuple #[.int .i64 x, c]) w' → wpList P ops Q rest (a.put o.dst (.tuple #[.bool true, .int .i64 x, c])) w')) :
    wpList P ops Q (o :: rest) a w :=
  wpList_next_ranges w hg it hop k K (plainElem P e) (Value.int .i64) (fun v : Value => v) (fun key kl hkey => by obtain ⟨x, rfl, _⟩ := Maps.keyOf_int_inv hk hkey; exact ⟨x, rfl⟩) (fun v y hv => ⟨v, rfl⟩)
    b r n D left cnt hit h (fun _ hl => Stop.of hDone hl) (fun x c kl y w' cnt' hkey hlk hv hat hrg hlt hgr hsz hen => by
      obtain ⟨x', ex, rfl, hwx⟩ := Maps.keyOf_int_inv hk hkey
      cases ex
      exact Stop.of hMore x c w' cnt' hlk hrg hlt hgr hsz hen)

theorem bit_test {s j : Nat} (hs : s < 4096) : (bits .and .i64 ((s : Int) / 2 ^ j) 1 == 1) = s.testBit j := by
  have e : ((s : Int) / 2 ^ j) = ((s / 2 ^ j : Nat) : Int) := by
    first
      | (push_cast; rfl)
      | simp
  have h := and_i64 (a := s / 2 ^ j) (b := 1) (Nat.lt_of_le_of_lt (Nat.div_le_self _ _) hs) (by decide)
  rw [e, show (1 : Int) = ((1 : Nat) : Int) from rfl, h, Nat.and_one_is_mod, Nat.testBit_eq_decide_div_mod_eq]
  rw [Bool.eq_iff_iff]
  simp
  omega

theorem law3 : Keyed Tryd.prog 3 := int_keyed Tryd.underlying3
theorem map_below {P : Program} {k : TypeId} {R : Value → Option (DataW Unit × List MemPlace)} {W W' : World} {B n : Nat} {D : DataW Unit} (h : W.ownsMap P k R B n D) (hb : Below W.heap.size W W') : W'.ownsMap P k R B n D := by
  have hlt := h.lt
  obtain ⟨es, clock, hbk, F, hs, hD⟩ := h
  exact ⟨es, clock, (hb.block B hlt).trans hbk, F, hs, hD⟩

set_option maxRecDepth 100000 in
theorem before_c (w : World) (a b : Option Addr) (n c m c' : Nat) (A B : List Nat) (hA : A.length = n) (hB : B.length = m) (hn : n ≤ maxLen) (hm : m ≤ maxLen) (H : IntsAt w a (A.map fun i : Nat => (i : Int))) (H2 : IntsAt w b (B.map fun i : Nat => (i : Int))) :
    Calls Tryd.prog 67 #[.slice a n c, .slice b m c'] w fun e w' => e = .returned (.bool (befN A B)) ∧ Below w.heap.size w w' := by
  have HA := hid hA
  have HB := hid hB
  have HH := hid H
  have HH2 := hid H2
  unfold maxLen at hn hm
  by_cases hnm : n = m
  · obtain rfl := hnm
    have HE := hid (show befN A B = lexN A B by unfold befN; rw [if_pos (by omega)])
    have HP := hid (fun k (hk : k ≤ n) (h : ∀ j, j < k → A[j]? = B[j]?) => pair_at (A := A) (B := B) k (by omega) (by omega) h)
    have hne : ((n : Int) != (n : Int)) = false := by simp
    clear hA hB H H2
    go_enter Tryd.func67, Tryd.ntmps67
    go_wp2
    go_loopw [18] (fun i wr => ∃ k : Nat, k ≤ n ∧ i = .int .i64 k ∧ Below w.heap.size w wr ∧ Hid (∀ j, j < k → A[j]? = B[j]?)) (fun i _ => n - (intOf i).toNat)
    case atStart => exact ⟨0, Nat.zero_le _, rfl, Below.refl _ _, hid fun j hj => by omega⟩
    case round =>
      obtain ⟨k, hk, rfl, hb, HJ⟩ := hrel
      by_cases hlt : k < n
      · have hkA : k < A.length := by rw [HA.out]; exact hlt
        have hkB : k < B.length := by rw [HB.out]; exact hlt
        obtain ⟨b1, o1, rfl, hs1, h1⟩ := (HH.out.below hb) k (by rw [List.length_map]; exact hkA)
        obtain ⟨b2, o2, rfl, hs2, h2⟩ := (HH2.out.below hb) k (by rw [List.length_map]; exact hkB)
        have e1 : ((A.map fun i : Nat => (i : Int))[k]?.getD 0) = ((A[k] : Nat) : Int) := by rw [List.getElem?_map, List.getElem?_eq_getElem hkA]; rfl
        have e2 : ((B.map fun i : Nat => (i : Int))[k]?.getD 0) = ((B[k] : Nat) : Int) := by rw [List.getElem?_map, List.getElem?_eq_getElem hkB]; rfl
        rw [e1] at h1
        rw [e2] at h2
        obtain ⟨x, hx⟩ : ∃ x, x = A[k] := ⟨_, rfl⟩
        obtain ⟨y, hy⟩ : ∃ y, y = B[k] := ⟨_, rfl⟩
        rw [← hx] at h1
        rw [← hy] at h2
        have HX := hid (show A[k]? = some x by rw [List.getElem?_eq_getElem hkA, hx])
        have HY := hid (show B[k]? = some y by rw [List.getElem?_eq_getElem hkB, hy])
        have HL := hid (show lexN A B = lexN (x :: A.drop (k + 1)) (y :: B.drop (k + 1)) by rw [HP.out k hk HJ.out, List.drop_eq_getElem_cons hkA, List.drop_eq_getElem_cons hkB, hx, hy])
        clear e1 e2 hx hy
        by_cases hxy : x = y
        · have hne2 : ((x : Int) != (y : Int)) = false := by simp [hxy]
          have HXY := hid hxy
          clear hxy
          go_wp2
          go_quiet (fail)
          go_wp2
          refine ⟨⟨k + 1, by omega, by go_num, below_drewN hb _, hid fun j hj => ?_⟩, meas hlt⟩
          by_cases e : j = k
          · subst e; rw [HX.out, HY.out, HXY.out]
          · exact HJ.out j (by omega)
        · have hne2 : ((x : Int) != (y : Int)) = true := by simp; exact fun h => hxy (by exact_mod_cast h)
          have HXY := hid hxy
          clear hxy
          go_wp2
          go_quiet (fail)
          go_wp2
          go_quiet (fail)
          go_wp2
          go_ret
          refine ⟨ret_bool ?_, below_drewN (below_drewN hb _) _⟩
          rw [HE.out, HL.out, lexN, if_neg HXY.out]
          try simp
      · obtain rfl : k = n := by omega
        go_wp2
        go_ret
        refine ⟨ret_bool ?_, hb⟩
        rw [HE.out, HP.out k (Nat.le_refl _) HJ.out, List.drop_eq_nil_of_le (by rw [HA.out]; exact Nat.le_refl _)]
        rfl
  · have HE := hid (show befN A B = decide (n < m) by unfold befN; rw [if_neg (by omega), HA.out, HB.out])
    have hne : ((n : Int) != (m : Int)) = true := by simp; omega
    clear hA hB H H2
    go_enter Tryd.func67, Tryd.ntmps67
    go_wp2
    go_ret
    refine ⟨ret_bool ?_, Below.refl _ _⟩
    rw [HE.out]
    try simp
end Go.Proofs.YthaampmdponhbaaDoor

namespace Go.Proofs.YthaampmdponhbaaDoor
open Go.RowKit
set_option linter.unusedVariables false

theorem slEqual_c (w : World) (a a2 : Option Addr) (n cap n2 cap2 : Nat) (l l2 : List Int) (hn : l.length = n) (hn2 : l2.length = n2) (hm : n ≤ maxLen) (hm2 : n2 ≤ maxLen) (H : IntsAt w a l) (H2 : IntsAt w a2 l2) :
    Calls Tryd.prog 65 #[.slice a n cap, .slice a2 n2 cap2] w fun e w' => e = .returned (.bool (decide (l = l2))) ∧ ∃ k, w' = w.drewN k := by
  have HN := hid hn
  have HN2 := hid hn2
  have HH := hid H
  have HH2 := hid H2
  clear hn hn2 H H2
  unfold maxLen at hm hm2
  by_cases hl : n = n2
  · have hd : ((n : Int) != (n2 : Int)) = false := by simp [hl]
    have HL := hid hl
    clear hl
    go_enter Tryd.func65, Tryd.ntmps65
    go_wp2
    go_loopw [13] (fun i wr => ∃ k : Nat, k ≤ n ∧ i = .int .i64 k ∧ (∃ q, wr = w.drewN q) ∧ ∀ j (hj : j < l.length) (hj2 : j < l2.length), j < k → l[j] = l2[j]) (fun i _ => n - (intOf i).toNat)
    case atStart => exact ⟨0, Nat.zero_le _, rfl, ⟨0, rfl⟩, fun i _ _ h => by omega⟩
    case round =>
      obtain ⟨k, hk, rfl, ⟨q, rfl⟩, hno⟩ := hrel
      have HNO := hid hno
      clear hno
      by_cases hlt : k < n
      · have hkl : k < l.length := by rw [HN.out]; exact hlt
        have hkl2 : k < l2.length := by rw [HN2.out, ← HL.out]; exact hlt
        obtain ⟨b, off, rfl, hbs, hc⟩ := HH.out k hkl
        obtain ⟨b2, off2, rfl, hbs2, hc2⟩ := HH2.out k hkl2
        have hg : l[k]?.getD 0 = l[k] := by rw [List.getElem?_eq_getElem hkl]; rfl
        have hg2 : l2[k]?.getD 0 = l2[k] := by rw [List.getElem?_eq_getElem hkl2]; rfl
        rw [hg] at hc
        rw [hg2] at hc2
        have hlt2 : k < n2 := by have := HL.out; omega
        have HKL := hid hkl
        have HKL2 := hid hkl2
        clear hg hg2
        by_cases he : l[k] = l2[k]
        · have hb : (l[k] != l2[k]) = false := by simp [he]
          have HE := hid he
          clear he
          go_wp2
          go_quiet (fail)
          go_wp2
          refine ⟨⟨k + 1, by omega, by go_num, ⟨_, rfl⟩, fun j hj hj2 hjk => ?_⟩, by simp [intOf]; omega⟩
          by_cases e : j = k
          · subst e; exact HE.out
          · exact HNO.out j hj hj2 (by omega)
        · have hb : (l[k] != l2[k]) = true := by simp [he]
          have HE := hid he
          clear he
          go_wp2
          go_quiet (fail)
          go_wp2
          go_ret
          refine ⟨ret_bool ?_, q + nq, drewN_add _ _ _⟩
          symm
          rw [decide_eq_false_iff_not]
          rintro rfl
          exact HE.out rfl
      · go_wp2
        go_ret
        refine ⟨ret_bool ?_, _, rfl⟩
        symm
        rw [decide_eq_true_iff]
        have h1 := HN.out
        have h2 := HN2.out
        have h3 := HL.out
        exact List.ext_getElem (by omega) fun i g1 g2 => HNO.out i g1 g2 (by omega)
  · have hd : ((n : Int) != (n2 : Int)) = true := by simp; omega
    have HL := hid hl
    clear hl
    go_enter Tryd.func65, Tryd.ntmps65
    go_wp2
    go_ret
    refine ⟨ret_bool ?_, 0, rfl⟩
    symm
    rw [decide_eq_false_iff_not]
    rintro rfl
    exact HL.out (HN.out.symm.trans HN2.out)

theorem slEqual_d (W : World) (a a2 : Option Addr) (n n2 cap cap2 : Nat) (l l2 : List Int) (D : Bool) (hn : l.length = n) (hn2 : l2.length = n2) (hm : n ≤ maxLen) (hm2 : n2 ≤ maxLen) (H : IntsAt W a l) (H2 : IntsAt W a2 l2) (hD : D = decide (l = l2)) :
    Calls Tryd.prog 65 #[.slice a n cap, .slice a2 n2 cap2] W fun e w' => e = .returned (.bool D) ∧ Below W.heap.size W w' := by
  subst hD
  exact (slEqual_c W a a2 n cap n2 cap2 l l2 hn hn2 hm hm2 H H2).mono fun e w' ⟨h1, k, h2⟩ => ⟨h1, by rw [h2]; exact below_drewN (Below.refl _ _) _⟩

end Go.Proofs.YthaampmdponhbaaDoor

namespace Go.Proofs.YthaampmdponhbaaDoor
open Go.RowKit Go.Maps
set_option linter.unusedVariables false

def ChPost (fb : Nat) (T : List Nat) (o : Option (List Nat)) (w w' : World) : Prop :=
  match o with
  | none => Below w.heap.size w w'
  | some t => Keep (fun k => k ≠ fb) w w' ∧ ∃ va vc, Boxed w' fb 30 (.slice va (T ++ t).length vc) ∧ IntsAt w' va ((T ++ t).map fun i : Nat => (i : Int))
theorem ChPost.keep {fb : Nat} {T : List Nat} {o : Option (List Nat)} {w w' : World} (h : ChPost fb T o w w') : Keep (fun k => k ≠ fb) w w' := by
  cases o with
  | none => exact Keep.of_below h
  | some t => exact h.1

def chLb (mb gb fb sb cb : Nat) : Array Value := #[.pointer (some ⟨mb, 0, none⟩), .pointer (some ⟨gb, 0, none⟩), .pointer (some ⟨fb, 0, none⟩), .pointer (some ⟨sb, 0, none⟩), .pointer (some ⟨cb, 0, none⟩)]

structure ChW (wA : World) (mb gb fb sb cb : Nat) (a : Option Addr) (n cap : Nat) (a2 : Option Addr) (n2 cap2 : Nat) (ga : Option Addr) (N gc : Nat) (W : World) : Prop where
  below : Below wA.heap.size wA W
  hm : Boxed W mb 23 (.slice a n cap)
  hg : Boxed W gb 30 (.slice ga N gc)
  hs : Boxed W sb 22 (.slice a2 n2 cap2)
  hc : Boxed W cb 73 (.func (.func 64) #[] (chLb mb gb fb sb cb))
  hf : ∃ v, Boxed W fb 30 v
theorem ChW.keep {wA W W' : World} {mb gb fb sb cb : Nat} {a : Option Addr} {n cap : Nat} {a2 : Option Addr} {n2 cap2 : Nat} {ga : Option Addr} {N gc : Nat} (h : ChW wA mb gb fb sb cb a n cap a2 n2 cap2 ga N gc W) (hd : wA.heap.size ≤ fb ∧ mb ≠ fb ∧ gb ≠ fb ∧ sb ≠ fb ∧ cb ≠ fb)
    (hk : Keep (fun k => k ≠ fb) W W') (hf : ∃ v, Boxed W' fb 30 v) : ChW wA mb gb fb sb cb a n cap a2 n2 cap2 ga N gc W' := by
  obtain ⟨d0, d1, d2, d3, d4⟩ := hd
  refine ⟨hk.below h.below h.below.size (fun k hk => by omega), (hk.block _ h.hm.lt d1).trans h.hm, (hk.block _ h.hg.lt d2).trans h.hg, (hk.block _ h.hs.lt d3).trans h.hs, (hk.block _ h.hc.lt d4).trans h.hc, hf⟩
theorem ChW.grow {wA W W' : World} {mb gb fb sb cb : Nat} {a : Option Addr} {n cap : Nat} {a2 : Option Addr} {n2 cap2 : Nat} {ga : Option Addr} {N gc : Nat} (h : ChW wA mb gb fb sb cb a n cap a2 n2 cap2 ga N gc W) (hb : Below W.heap.size W W') : ChW wA mb gb fb sb cb a n cap a2 n2 cap2 ga N gc W' :=
  ⟨chain h.below hb, boxed_below h.hm hb, boxed_below h.hg hb, boxed_below h.hs hb, boxed_below h.hc hb, by obtain ⟨v, hv⟩ := h.hf; exact ⟨v, boxed_below hv hb⟩⟩

set_option maxRecDepth 100000 in
set_option maxHeartbeats 4000000 in
theorem choose0_c (wA : World) (ht : Tab wA) (mb gb fb sb cb : Nat) (hd : wA.heap.size ≤ fb ∧ mb ≠ fb ∧ gb ≠ fb ∧ sb ≠ fb ∧ cb ≠ fb)
    (a : Option Addr) (n cap : Nat) (M : Mask) (hn : M.length = n) (H : RowsAt wA a M) (hM : okM M = true)
    (a2 : Option Addr) (n2 cap2 : Nat) (L : List (List Int)) (hn2 : L.length = n2) (hm2 : n2 ≤ 12) (hx : ∀ x ∈ L, okShown M x = true)
    (ga : Option Addr) (N gc : Nat) (hgn : (classF M L).length = N) (HG : IntsAt wA ga (classF M L)) :
    ∀ (f : Nat) (T : List Nat) (w : World) (al ax : Option Addr) (ln lc xc : Nat), ChW wA mb gb fb sb cb a n cap a2 n2 cap2 ga N gc w → (∀ i ∈ T, i < n2) → T.length = ln → ln ≤ n2 → ln ≤ lc → ln ≤ xc → IntsAt w al (T.map fun i : Nat => (i : Int)) → RowsAt w ax (selL L T) →
    Calls Tryd.prog 64 #[.int .i64 f, .int .i64 0, .slice al ln lc, .slice ax ln xc, .pointer (some ⟨mb, 0, none⟩), .pointer (some ⟨gb, 0, none⟩), .pointer (some ⟨fb, 0, none⟩), .pointer (some ⟨sb, 0, none⟩), .pointer (some ⟨cb, 0, none⟩)] w fun e w' =>
      e = .returned (.bool (searchL n2 (clF M L) 0 f T).isSome) ∧ ChPost fb T (searchL n2 (clF M L) 0 f T) w w' := by
  intro f T w al ax ln lc xc hw hT hln hl2 hlc hxc HL HX
  have hm : n ≤ maxLen := by have := (okM_len hM).2.1; unfold maxLen; omega
  have hsl : (selL L T).length = ln := by simp [selL, hln]
  have hsx : ∀ x ∈ selL L T, okShown M x = true := by
    intro x hxm
    obtain ⟨i, hi, rfl⟩ := List.mem_map.1 hxm
    have hil : i < L.length := by rw [hn2]; exact hT i hi
    rw [List.getElem?_eq_getElem hil]
    exact hx _ (List.getElem_mem hil)
  have HCl := hid (fun (W : World) (hb : Below w.heap.size w W) => classes_c W (ht.below (chain hw.below hb)) a n cap M hn (H.below (chain hw.below hb)) hM ax ln xc (selL L T) hsl (by omega) (HX.below hb) hsx)
  have hlen : ∀ K, (classF M K).length = N := fun K => by rw [classF_length, ← hgn, classF_length]
  have HLen := hid (hlen (selL L T))
  obtain ⟨D, hD⟩ : ∃ D, D = clF M L T := ⟨_, rfl⟩
  have hN240 : N ≤ 240 := by rw [← hgn, classF_length]; exact all_240 hM
  have HEq := hid (fun (W : World) (hb : Below w.heap.size w W) (va : Option Addr) (vc : Nat) (hv : IntsAt W va (classF M (selL L T))) => slEqual_d W va ga N N vc gc _ _ D (hlen _) hgn (by unfold maxLen; omega) (by unfold maxLen; omega) hv (HG.below (chain hw.below hb)) (by rw [hD]; rfl))
  have HCn := hid (fun (W : World) (hb : Below w.heap.size w W) => clone_c W al ln lc (T.map fun i : Nat => (i : Int)) (by simp [hln]) (by omega) (HL.below hb))
  have HS := hid (fun (W : World) (hb : Below w.heap.size w W) => show W.cell? ⟨mb, 0, none⟩ = some (.slice a n cap) ∧ W.cell? ⟨gb, 0, none⟩ = some (.slice ga N gc) from ⟨(boxed_below hw.hm hb).cell, (boxed_below hw.hg hb).cell⟩)
  obtain ⟨v0, hv0⟩ := hw.hf
  have HF := hid hv0
  have HLN := hid (show (T.map fun i : Nat => (i : Int)).length = ln by simp [hln])
  have HLT := hid hln
  have hfw := hv0.lt
  have hse : searchL n2 (clF M L) 0 f T = if D then some [] else none := by rw [hD]; rfl
  rw [hse]
  clear hw hT hln HL HX hsl hsx hlen hD hn H hx hn2 HG hgn hv0 hd hse
  go_enter Tryd.func64, Tryd.ntmps64
  go_wp2
  refine plain_region (fun j' X => wAll j' = true → (X.cell? ⟨mb, 0, none⟩ = some (.slice a n cap) ∧ X.cell? ⟨gb, 0, none⟩ = some (.slice ga N gc))) (by kernel_rfl) ?_
  have hbd : Below w.heap.size w w.drew := (Below.refl _ _).drew
  generalize w.drew = wd at hbd ⊢
  refine AnyT.takeD (i := 0) (v := .slice a n cap) rfl rfl (by kernel_rfl) (by kernel_rfl) (by kernel_rfl) (by first | exact (fun _ _ _ h => h) | exact (fun _ _ _ h => absurd h.1 (by simp))) (by kernel_rfl) (by rfl) (by rintro w' ⟨q0, q1⟩; go_simp) (HS.out _ hbd) ?_; go_frame
  refine AnyT.takeD (i := 1) (v := .slice ax ln xc) rfl rfl (by kernel_rfl) (by kernel_rfl) (by kernel_rfl) (by first | exact (fun _ _ _ h => h) | exact (fun _ _ _ h => absurd h.1 (by simp))) (by kernel_rfl) (by rfl) (by rintro w' ⟨q0, q1⟩; go_simp) (HS.out _ hbd) ?_; go_frame
  refine AnyT.takeD (i := 3) (v := .slice ga N gc) rfl rfl (by kernel_rfl) (by kernel_rfl) (by kernel_rfl) (by first | exact (fun _ _ _ h => h) | exact (fun _ _ _ h => absurd h.1 (by simp))) (by kernel_rfl) (by rfl) (by rintro w' ⟨q0, q1⟩; go_simp) (HS.out _ hbd) ?_; go_frame
  refine AnyT.next (i := 2) (by kernel_rfl) rfl (wpOp_of_list rfl ?_)
  go_wp2_with (go_at_call 43; refine (HCl.out _ hbd).mono ?_; rintro e w4 ⟨v4, base4, rfl, hbase4, ho4, hbl4⟩; refine Stop.of ?_)
  refine Stop.go ?_
  rw [classF_length] at HLen
  rw [HLen.out] at ho4
  obtain ⟨va4, vc4, rfl, hI4⟩ := ints_own ho4 (by rw [classF_length]; exact HLen.out)
  have hw4 := chain hbd hbl4
  have HI4 := hid hI4
  clear ho4 hI4 hbase4
  go_wp2
  refine ⟨fun _ => HS.out _ hw4, ?_⟩
  refine AnyT.next (i := 4) (by kernel_rfl) rfl (wpOp_of_list rfl ?_)
  go_wp2_with (go_at_call 65; refine (HEq.out _ hw4 _ _ HI4.out).mono ?_; rintro e w5 ⟨rfl, hbl5⟩; refine Stop.of ?_)
  refine Stop.go ?_
  have hw5 := chain hw4 hbl5
  go_wp2
  refine ⟨fun _ => HS.out _ hw5, ?_⟩
  refine AnyT.done (by kernel_rfl) ?_ _
  clear hw4 hbd hbl4 hbl5
  have hb5 := (boxed_below HF.out hw5)
  have c5 := hb5.cell
  have z5 := hb5.frozen
  cases D with
  | false =>
    go_wp2
    refine bodyPost_ret (v := .bool false) (by simp [results, Tryd.results64, go_sem]) rfl ⟨rfl, ?_⟩
    exact hw5
  | true =>
    go_wp2_with (go_at_call 66; refine (HCn.out _ hw5).mono ?_; rintro e w6 ⟨v6, rfl, ho6, hb6⟩; refine Stop.of ?_)
    refine Stop.go ?_
    obtain ⟨va6, vc6, rfl⟩ := ownsRow_slice ho6
    have hbf6 := boxed_below HF.out (chain hw5 hb6)
    have c6 := hbf6.cell
    have z6 := hbf6.frozen
    have HO6 := hid ho6
    have HB6 := hid (chain hw5 hb6)
    have HW5 := hid hw5
    have HBF := hid hbf6
    clear ho6 hb5 c5 z5 hbf6 hb6 hw5
    go_wp2
    refine bodyPost_ret (v := .bool true) (by simp [results, Tryd.results64, go_sem]) rfl ⟨rfl, ?_⟩
    have hk := Keep.set w6 fb 0 (.slice va6 ln vc6)
    have ho7 := own_keep HO6.out hk (fun k hk => by have := HW5.out.size; omega)
    obtain ⟨va, vc, e, hi⟩ := ints_own ho7 HLN.out
    cases e
    refine ⟨(Keep.of_below HB6.out).trans hk, va6, vc6, ?_, by simpa using hi⟩
    have := HBF.out.set (.slice va6 ln vc6)
    simpa [HLT.out] using this
end Go.Proofs.YthaampmdponhbaaDoor

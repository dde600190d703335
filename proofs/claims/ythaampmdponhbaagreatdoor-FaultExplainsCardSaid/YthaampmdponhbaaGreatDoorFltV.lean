/- Walks of the reference: SameMask, reads; two calls in a drawn region. -/
import Derived.Test.YthaampmdponhbaaGreatDoorFltU
import Derived.Maps.RangeWalk
namespace Go.Proofs.YthaampmdponhbaaGreatDoor
open Go.RowKit
set_option linter.unusedVariables false

theorem region_cut {P : Program} {c : Code} {Q : Exit → Act → World → Prop} {a : Act} {w : World} (R : Act → Act → World → Prop) (h1 : c.wp P (fun e a' w' => e = .normal ∧ R a a' w') a w) (h2 : ∀ a' w', R a a' w' → Q .normal a' w') : c.wp P Q a w :=
  Code.wp_mono (fun e a' w' ⟨he, hr⟩ => by subst he; exact h2 a' w' hr) h1

theorem AnyT.next2 {P : Program} {md : Region.Mode} {ops : Array Oper} {Q : Exit → Act → World → Prop} {T : Nat → World → Prop} {i j : Nat} {fuel : Nat} {listed : Array Bool} {a : Act} {w : World} (hr : Region.ready md ops listed = [i, j])
    (h1 : wpOp P ops Q i (fun a' w' => T i w' ∧ AnyT P md ops Q T fuel (listed.setIfInBounds i true) a' w') a w)
    (h2 : wpOp P ops Q j (fun a' w' => T j w' ∧ AnyT P md ops Q T fuel (listed.setIfInBounds j true) a' w') a w) : AnyT P md ops Q T (fuel + 1) listed a w :=
  ⟨fun h0 => (by rw [hr] at h0; cases h0), fun k hk => by
    rw [hr] at hk
    have : k = i ∨ k = j := by simpa using hk
    rcases this with rfl | rfl
    · exact h1
    · exact h2⟩

set_option maxHeartbeats 1000000 in
theorem sameMask_c (w : World) (a a2 : Option Addr) (n cap n2 cap2 : Nat) (A B : Mask) (hn : A.length = n) (hn2 : B.length = n2) (hm : n ≤ maxLen) (hm2 : n2 ≤ maxLen) (H : RowsAt w a A) (H2 : RowsAt w a2 B) :
    Calls Tryz.prog 104 #[.slice a n cap, .slice a2 n2 cap2] w fun e w' => e = .returned (.bool (decide (A = B))) ∧ ∃ k, w' = w.drewN k := by
  have HN := hid hn
  have HN2 := hid hn2
  have HH := hid H
  have HH2 := hid H2
  clear hn hn2 H H2
  unfold maxLen at hm hm2
  by_cases hl : n = n2
  · have hd : ((n : Int) != (n2 : Int)) = false := by simp [hl]
    have HL := hid hl
    clear hl
    go_enter Tryz.func104, Tryz.ntmps104
    go_wp2
    go_loopw [13] (fun i wr => ∃ k : Nat, k ≤ n ∧ i = .int .i64 k ∧ (∃ q, wr = w.drewN q) ∧ ∀ j (hj : j < A.length) (hj2 : j < B.length), j < k → A[j] = B[j]) (fun i _ => n - (intOf i).toNat)
    case atStart => exact ⟨0, Nat.zero_le _, rfl, ⟨0, rfl⟩, fun i _ _ h => by omega⟩
    case round =>
      obtain ⟨k, hk, rfl, hq, hno⟩ := hrel
      have hbw : Below w.heap.size w wr := by obtain ⟨q, rfl⟩ := hq; exact below_drewN (Below.refl _ _) q
      have HQ := hid hq
      have HNO := hid hno
      clear hno hq
      by_cases hlt : k < n
      · have hkl : k < A.length := by rw [HN.out]; exact hlt
        have hkl2 : k < B.length := by rw [HN2.out, ← HL.out]; exact hlt
        obtain ⟨b, off, ra, rn, rc, rfl, hbs, hc, hrn, hrm, hri⟩ := (HH.out.below hbw) k hkl
        obtain ⟨b', off', ra', rn', rc', rfl, hbs', hc', hrn', hrm', hri'⟩ := (HH2.out.below hbw) k hkl2
        have HI := hid (fun q2 => sameInts_c (wr.drewN q2) ra ra' rn rc rn' rc' A[k] B[k] hrn hrn' hrm hrm' (hri.below (below_drewN (Below.refl _ _) q2)) (hri'.below (below_drewN (Below.refl _ _) q2)))
        have hlt2 : k < n2 := by have := HL.out; omega
        have HKL := hid hkl
        have HKL2 := hid hkl2
        clear hri hri' hrn hrn'
        by_cases he : A[k] = B[k]
        · have HE := hid he
          have HS := hid (fun q2 => (HI.out q2).mono fun e w' ⟨h1, h2⟩ => show e = Ending.returned (.bool true) ∧ ∃ k, w' = (wr.drewN q2).drewN k from ⟨h1.trans (ret_bool (decide_eq_true he)), h2⟩)
          clear he HI
          go_wp2
          go_quiet ((go_at_call 46; exact Calls.quiet_of (HS.out _)))
          go_wp2
          refine ⟨⟨k + 1, by omega, by go_num, (by obtain ⟨q, e⟩ := HQ.out; exact ⟨_, by rw [e, drewN_add]⟩), fun j hj hj2 hjk => ?_⟩, by simp [intOf]; omega⟩
          by_cases e : j = k
          · subst e; exact HE.out
          · exact HNO.out j hj hj2 (by omega)
        · have HE := hid he
          have HS := hid (fun q2 => (HI.out q2).mono fun e w' ⟨h1, h2⟩ => show e = Ending.returned (.bool false) ∧ ∃ k, w' = (wr.drewN q2).drewN k from ⟨h1.trans (ret_bool (decide_eq_false he)), h2⟩)
          clear he HI
          go_wp2
          go_quiet ((go_at_call 46; exact Calls.quiet_of (HS.out _)))
          go_wp2
          go_ret
          refine ⟨ret_bool ?_, (by obtain ⟨q, e⟩ := HQ.out; exact ⟨_, by rw [e, drewN_add]⟩)⟩
          symm
          rw [decide_eq_false_iff_not]
          rintro rfl
          exact HE.out rfl
      · go_wp2
        go_ret
        refine ⟨ret_bool ?_, HQ.out⟩
        symm
        rw [decide_eq_true_iff]
        have h1 := HN.out
        have h2 := HN2.out
        have h3 := HL.out
        exact List.ext_getElem (by omega) fun i g1 g2 => HNO.out i g1 g2 (by omega)
  · have hd : ((n : Int) != (n2 : Int)) = true := by simp; omega
    have HL := hid hl
    clear hl
    go_enter Tryz.func104, Tryz.ntmps104
    go_wp2
    go_ret
    refine ⟨ret_bool ?_, 0, rfl⟩
    symm
    rw [decide_eq_false_iff_not]
    rintro rfl
    exact HL.out (HN.out.symm.trans HN2.out)

theorem dotTo_full (row x : List Int) (k : Nat) (h : k < row.length) : dotTo row x (k + 1) = wrap64 (dotTo row x k + wrap64 (row[k]?.getD 0 * x[k]?.getD 0)) := rfl

set_option maxHeartbeats 4000000 in
set_option maxRecDepth 100000 in
theorem refReads_c (w : World) (a : Option Addr) (n cap : Nat) (M : Mask) (hn : M.length = n) (H : RowsAt w a M) (hM : okM M = true) (f : Flt) (hf : okF M f = true) (a2 : Option Addr) (n2 cap2 : Nat) (x : List Int) (hn2 : x.length = n2) (H2 : IntsAt w a2 x) (hx : okShown M x = true) :
    Calls Tryz.prog 45 #[.slice a n cap, f.val, .slice a2 n2 cap2] w fun e w' => ∃ v base, e = .returned v ∧ w.heap.size ≤ base ∧ w'.ownsRow base 3 1 v n ((readF M f x).map (Value.int .i64)) ∧ Below w.heap.size w w' := by
  obtain ⟨wf, hwf, hb0, hcells⟩ := fltBox w f
  have HF := hid (refFaulty_r wf a n cap M hn (H.below hb0) hM f hf)
  have hx2 : n2 = colsM M := by
    unfold okShown at hx
    simp at hx
    rw [← hn2]; exact hx.1.2
  have hc10 := okM10 hM
  have HRows := hid (fun (r : List Int) (hr : r ∈ faultyM M f) => show r.length = n2 by rw [(faultyM_cols hM hf r hr).1, hx2])
  have HN := hid (show (faultyM M f).length = n by rw [faultyM_row, hn])
  have hn6 : n ≤ 6 := by have := (okM_len hM).2.1; omega
  have hn210 : n2 ≤ 10 := by omega
  have HX := hid H2
  have HXN := hid hn2
  have HB0 := hid hb0
  obtain ⟨_, f0, f1, f2⟩ := hcells wf (Below.refl _ _)
  have hre : readF M f x = readM (faultyM M f) x := rfl
  rw [hre]
  obtain ⟨Mf, hMf⟩ : ∃ Mf, Mf = faultyM M f := ⟨_, rfl⟩
  rw [← hMf] at HF HRows HN ⊢
  have HWF := hid hwf
  clear hre hMf hn H hf hn2 H2 hx hM hcells hb0 hwf hx2 hc10
  obtain ⟨kind, row, pixel⟩ := f
  unfold Flt.val at HF ⊢
  simp only [] at HF HWF f0 f1 f2 ⊢
  have hw := HWF.out
  clear HWF
  subst hw
  go_enter Tryz.func45, Tryz.ntmps45
  go_wp2_with (go_at_call 81; refine HF.out.mono ?_; rintro e w1 ⟨v, base, rfl, hbase, hown, hb1⟩; refine Stop.of ?_)
  refine Stop.go ?_
  obtain ⟨va, vc, rfl, _, hrows, _⟩ := hown.reads
  have HNN := HN.out
  rw [HNN]
  have HR := hid hrows
  have HB1 := hid (chain HB0.out hb1)
  clear hown hrows hbase hb1 HNN f0 f1 f2
  go_wp2
  go_loopw [7, 17] (fun v i wr => ∃ k : Nat, k ≤ n ∧ i = .int .i64 k ∧ wr.ownsRow w1.heap.size 3 1 v k ((readM (Mf.take k) x).map (Value.int .i64)) ∧ Below w1.heap.size w1 wr) (fun _ i _ => n - (intOf i).toNat)
  case atStart => exact ⟨0, Nat.zero_le _, rfl, World.ownsRow_nil _ _ _ _, Below.refl _ _⟩
  case round =>
    obtain ⟨wo, hwo⟩ : ∃ wo, wo = wr := ⟨_, rfl⟩
    subst hwo
    obtain ⟨k, hk, rfl, hown, hbk⟩ := hrel
    by_cases hlt : k < n
    · have hkM : k < Mf.length := by rw [HN.out]; exact hlt
      obtain ⟨b, off, ra, rn, rc, rfl, hbs, hq0, hrn, hrm, hri⟩ := (HR.out.below hbk) k hkM
      have hrl := HRows.out Mf[k] (List.getElem_mem hkM)
      obtain ⟨r, hr⟩ : ∃ r, r = Mf[k] := ⟨_, rfl⟩
      have htk := readM_take Mf x k hkM
      rw [← hr] at hrn hri hrl htk
      obtain rfl : rn = n2 := by omega
      have HTK := hid htk
      have HRN := hid hrn
      have HRI := hid hri
      have HOW := hid hown
      have HBK := hid hbk
      have HXK := hid (HX.out.below (chain HB1.out hbk))
      obtain ⟨va', vc', rfl⟩ := ownsRow_slice hown
      clear hr htk hrn hri hrl hown hbk hkM hrm
      go_wp2
      go_loopw [10, 23] (fun s i wr => ∃ j : Nat, j ≤ rn ∧ i = .int .i64 j ∧ s = .int .i64 (dotTo r x j) ∧ wr = wo) (fun _ i _ => rn - (intOf i).toNat)
      case atStart => exact ⟨0, Nat.zero_le _, rfl, rfl, rfl⟩
      case round =>
        obtain ⟨j, hj, rfl, rfl, rfl⟩ := hrel
        by_cases hjlt : j < rn
        · obtain ⟨b2, off2, rfl, hbs2, hc2⟩ := HRI.out j (by rw [HRN.out]; exact hjlt)
          obtain ⟨b3, off3, rfl, hbs3, hc3⟩ := HXK.out j (by rw [HXN.out]; exact hjlt)
          go_wp2
          exact ⟨⟨j + 1, by omega, by go_num, rfl, trivial⟩, by simp [intOf]; omega⟩
        · obtain rfl : j = rn := by omega
          obtain ⟨D, hD⟩ : ∃ D, D = dotTo r x j := ⟨_, rfl⟩
          have HD := hid (show D = dotW r x by rw [hD]; unfold dotW; rw [HRN.out])
          rw [← hD]
          clear hD
          have M1 := hid (show k + 1 ≤ maxLen by unfold maxLen; omega)
          have M2 := hid (show (k + 1) * 8 ≤ 140737488355328 by omega)
          have M3 := hid (Nat.le_trans HBK.out.size (le_alloc wr (.cells #[.int .i64 D] 3)))
          go_wp2_with (at_builtin; refine wpList_app _ rfl (.tmp 37) (.tmp 39) 27 rfl w1.heap.size 3 (.int .i64 0) 1 8 Tryz.underlying27 info_int rfl Nat.one_pos (.slice va' k vc') k _ rfl (HOW.out.alloc _) (some ⟨wr.heap.size, 0, none⟩) 1 1 [.int .i64 D] rfl rfl no_none (one_news wr _ _) (oneI _) M1.out M2.out M3.out ?_; refine Stop.of ?_)
          refine Stop.go ?_
          intro a3 c3 w3 own3 g3
          have hB3 : Below w1.heap.size w1 w3 := (HBK.out.alloc HBK.out.size _).grown g3 M3.out (fun q hq => (HOW.out.lt q hq).1)
          go_wp2
          refine ⟨⟨k + 1, by omega, by go_num, ?_, hB3⟩, by simp [intOf]; omega⟩
          rw [HTK.out, ← HD.out]
          simpa using own3
    · obtain rfl : k = n := by omega
      go_wp2
      go_ret
      refine ⟨_, w1.heap.size, rfl, HB1.out.size, ?_, chain HB1.out hbk⟩
      rw [← HN.out, List.take_length] at hown
      rw [HN.out] at hown
      exact hown
end Go.Proofs.YthaampmdponhbaaGreatDoor

/- Walks of the reference: explains, Explains, which, Which; First of both; the law's has. -/
import Derived.Test.YthaampmdponhbaaGreatDoorFltAK
import Derived.Test.YthaampmdponhbaaGreatDoorFltY
namespace Go.Proofs.YthaampmdponhbaaGreatDoor
open Go.RowKit
set_option linter.unusedVariables false

set_option maxRecDepth 100000 in
set_option maxHeartbeats 2000000 in
theorem refExplains_c (w : World) (a : Option Addr) (n cap : Nat) (M : Mask) (hn : M.length = n) (H : RowsAt w a M) (hM : okM M = true) (f : Flt) (hf : okF M f = true) (a3 : Option Addr) (n3 cap3 : Nat) (t : List Tst) (hn3 : t.length = n3) (hm3 : n3 ≤ maxLen) (H3 : TestsAt w a3 t) (hok : ∀ x ∈ t, okTest M x = true) :
    Calls Tryz.prog 36 #[.slice a n cap, f.val, .slice a3 n3 cap3] w fun e w' => e = .returned (.bool (explainsF M f t)) ∧ Below w.heap.size w w' := by
  obtain ⟨wf, hwf, hb0, hcells⟩ := fltBox w f
  have hm : n ≤ maxLen := by have := (okM_len hM).2.1; unfold maxLen; omega
  have HRd := hid (fun (W : World) (hb : Below wf.heap.size wf W) (xa : Option Addr) (xn xc : Nat) (x : List Int) (hxn : x.length = xn) (hxi : IntsAt W xa x) (hx : okShown M x = true) => refReads_v W a n cap M hn (H.below (chain hb0 hb)) hM f hf xa xn xc x hxn hxi hx)
  have HSI := hid (fun (W : World) (x : List Int) (va ra : Option Addr) (vc rn rc : Nat) (r : List Int) (D : Bool) (h1 : IntsAt W va (readF M f x)) (h2 : r.length = rn) (h3 : rn ≤ maxLen) (h4 : IntsAt W ra r) (hD : D = decide (readF M f x = r)) => sameInts_d W va ra n rn vc rc _ r D (by rw [readF_length, hn]) h2 hm h3 h1 h4 hD)
  have HE := hid (show explainsF M f t = t.all (fun x => decide (readF M f x.shown = x.read)) from rfl)
  have HOK := hid hok
  have HN3 := hid hn3
  have HH3 := hid (H3.below hb0)
  have HC := hid hcells
  have HB0 := hid hb0
  have HWF := hid hwf
  unfold maxLen at hm3
  clear hn H hM hf hn3 H3 hok hcells hb0 hwf hm
  obtain ⟨R, hR⟩ : ∃ R, R = readF M f := ⟨_, rfl⟩
  rw [← hR] at HRd HSI HE
  obtain ⟨EX, hEX⟩ : ∃ R, R = explainsF M f t := ⟨_, rfl⟩
  rw [← hEX] at HE ⊢
  clear hR hEX
  obtain ⟨kind, row, pixel⟩ := f
  simp only [Flt.val] at HRd HC HWF ⊢
  have hw := HWF.out
  go_enter Tryz.func36, Tryz.ntmps36
  go_wp2
  rw [← hw]
  clear hw
  go_loopw [11] (fun i wr => ∃ k : Nat, k ≤ n3 ∧ i = .int .i64 k ∧ Below wf.heap.size wf wr ∧ Hid (∀ j (hj : j < t.length), j < k → decide (R t[j].shown = t[j].read) = true)) (fun i _ => n3 - (intOf i).toNat)
  case atStart => exact ⟨0, Nat.zero_le _, rfl, Below.refl _ _, hid (fun j _ h => by omega)⟩
  case round =>
    obtain ⟨k, hk, rfl, hbk, hno⟩ := hrel
    by_cases hlt : k < n3
    · have hkt : k < t.length := by rw [HN3.out]; exact hlt
      obtain ⟨b, off, sa, sn, sc, ra, rn, rc, rfl, hbs, c0, c1, hsn, hsm, hsi, hrn, hrm, hri⟩ := (HH3.out.below hbk) k hkt
      obtain ⟨hsh, hrd⟩ := okTest_ok (HOK.out t[k] (List.getElem_mem hkt))
      obtain ⟨x, hx⟩ : ∃ x, x = t[k]'hkt := ⟨_, rfl⟩
      rw [← hx] at hsn hsi hrn hri hsh
      obtain ⟨wt, hwt, hbt, hct⟩ := tstBox wr sa ra sn sc rn rc
      have hbw := chain hbk hbt
      obtain ⟨D, hD⟩ : ∃ D, D = decide (R x.shown = x.read) := ⟨_, rfl⟩
      have HR1 := hid (fun (W : World) (hb : Below wt.heap.size wt W) => HRd.out W (chain hbw hb) sa sn sc x.shown hsn (hsi.below (chain hbt hb)) hsh)
      have HS1 := hid (fun (W : World) (hb : Below wt.heap.size wt W) (va : Option Addr) (vc : Nat) (hv : IntsAt W va (R x.shown)) => HSI.out W x.shown va ra vc rn rc x.read D hv hrn hrm (hri.below (chain hbt hb)) hD)
      have HS := hid (fun (W : World) (hb : Below wt.heap.size wt W) => show (W.cell? ⟨w.heap.size, 0, none⟩ = some (.int .i64 kind) ∧ W.cell? ⟨w.heap.size, 1, none⟩ = some (.int .i64 row) ∧ W.cell? ⟨w.heap.size, 2, none⟩ = some (.int .i64 pixel)) ∧ W.cell? ⟨wr.heap.size, 0, none⟩ = some (.slice sa sn sc) ∧ W.cell? ⟨wr.heap.size, 1, none⟩ = some (.slice ra rn rc) from ⟨(HC.out W (chain hbw hb)).2, (hct W hb).2⟩)
      have HD := hid (show decide (R (t[k]'hkt).shown = (t[k]'hkt).read) = D by rw [hD, hx])
      have HBW := hid hbw
      have HWT := hid hwt
      have HKT := hid hkt
      clear hsn hsi hrn hri hsh hrd hx hwt hbt hct hbw hD hbk
      go_wp2
      rw [← HWT.out]
      refine plain_region (fun j' X => wAll j' = true → ((X.cell? ⟨w.heap.size, 0, none⟩ = some (.int .i64 kind) ∧ X.cell? ⟨w.heap.size, 1, none⟩ = some (.int .i64 row) ∧ X.cell? ⟨w.heap.size, 2, none⟩ = some (.int .i64 pixel)) ∧ X.cell? ⟨wr.heap.size, 0, none⟩ = some (.slice sa sn sc) ∧ X.cell? ⟨wr.heap.size, 1, none⟩ = some (.slice ra rn rc))) (by kernel_rfl) ?_
      have hbd : Below wt.heap.size wt wt.drew := (Below.refl _ _).drew
      generalize wt.drew = wd at hbd ⊢
      refine AnyT.takeD (i := 0) (v := .slice a n cap) rfl rfl (by kernel_rfl) (by kernel_rfl) (by kernel_rfl) (by first | exact (fun _ _ _ h => h) | exact (fun _ _ _ h => absurd h.1 (by simp))) (by kernel_rfl) (by rfl) (by rintro w' ⟨⟨q0, q1, q2⟩, q4, q5⟩; go_simp) (HS.out _ hbd) ?_; go_frame
      refine AnyT.takeD (i := 1) (v := .agg #[.int .i64 kind, .int .i64 row, .int .i64 pixel]) rfl rfl (by kernel_rfl) (by kernel_rfl) (by kernel_rfl) (by first | exact (fun _ _ _ h => h) | exact (fun _ _ _ h => absurd h.1 (by simp))) (by kernel_rfl) (by rfl) (by rintro w' ⟨⟨q0, q1, q2⟩, q4, q5⟩; go_simp) (HS.out _ hbd) ?_; go_frame
      refine AnyT.takeD (i := 2) (v := .pointer (some ⟨wr.heap.size, 0, none⟩)) rfl rfl (by kernel_rfl) (by kernel_rfl) (by kernel_rfl) (by first | exact (fun _ _ _ h => h) | exact (fun _ _ _ h => absurd h.1 (by simp))) (by kernel_rfl) (by rfl) (by rintro w' ⟨⟨q0, q1, q2⟩, q4, q5⟩; go_simp) (HS.out _ hbd) ?_; go_frame
      refine AnyT.takeD (i := 3) (v := .slice sa sn sc) rfl rfl (by kernel_rfl) (by kernel_rfl) (by kernel_rfl) (by first | exact (fun _ _ _ h => h) | exact (fun _ _ _ h => absurd h.1 (by simp))) (by kernel_rfl) (by rfl) (by rintro w' ⟨⟨q0, q1, q2⟩, q4, q5⟩; go_simp) (HS.out _ hbd) ?_; go_frame
      refine AnyT.takeD (i := 5) (v := .pointer (some ⟨wr.heap.size, 1, none⟩)) rfl rfl (by kernel_rfl) (by kernel_rfl) (by kernel_rfl) (by first | exact (fun _ _ _ h => h) | exact (fun _ _ _ h => absurd h.1 (by simp))) (by kernel_rfl) (by rfl) (by rintro w' ⟨⟨q0, q1, q2⟩, q4, q5⟩; go_simp) (HS.out _ hbd) ?_; go_frame
      refine AnyT.takeD (i := 6) (v := .slice ra rn rc) rfl rfl (by kernel_rfl) (by kernel_rfl) (by kernel_rfl) (by first | exact (fun _ _ _ h => h) | exact (fun _ _ _ h => absurd h.1 (by simp))) (by kernel_rfl) (by rfl) (by rintro w' ⟨⟨q0, q1, q2⟩, q4, q5⟩; go_simp) (HS.out _ hbd) ?_; go_frame
      refine AnyT.next (i := 4) (by kernel_rfl) rfl (wpOp_of_list rfl ?_)
      go_wp2_with (go_at_call 45; refine (HR1.out _ hbd).mono ?_; rintro e w4 ⟨a4, c4, rfl, hA4, hbl4⟩; refine Stop.of ?_)
      refine Stop.go ?_
      have hw4 := chain hbd hbl4
      go_wp2
      refine ⟨fun _ => HS.out _ hw4, ?_⟩
      refine AnyT.next (i := 7) (by kernel_rfl) rfl (wpOp_of_list rfl ?_)
      go_wp2_with (go_at_call 46; refine (HS1.out _ hw4 _ _ hA4).mono ?_; rintro e w5 ⟨rfl, hbl5⟩; refine Stop.of ?_)
      refine Stop.go ?_
      have hw5 := chain hw4 hbl5
      have HW5 := hid hw5
      clear hA4 hw4 hbl4 hbl5 hw5 hbd
      go_wp2
      refine ⟨fun _ => HS.out _ HW5.out, ?_⟩
      refine AnyT.next (i := 8) (by kernel_rfl) rfl (wpOp_of_list rfl ?_)
      go_wp2
      refine ⟨fun _ => HS.out _ HW5.out, ?_⟩
      refine AnyT.done (by kernel_rfl) ?_ _
      cases D
      · go_wp2
        go_ret
        refine ⟨ret_bool ?_, chain HB0.out (chain HBW.out HW5.out)⟩
        rw [HE.out, all_stop (p := fun x : Tst => decide (R x.shown = x.read)) HKT.out HD.out]
      · go_wp2
        refine ⟨⟨k + 1, by omega, by go_num, chain HBW.out HW5.out, hid (fun j hj hjk => ?_)⟩, by simp [intOf]; omega⟩
        rcases Nat.lt_or_ge j k with h | h
        · exact hno.out j hj h
        · obtain rfl : j = k := by omega
          exact HD.out
    · obtain rfl : k = n3 := by omega
      go_wp2
      go_ret
      refine ⟨ret_bool ?_, chain HB0.out hbk⟩
      rw [HE.out, all_done (p := fun x : Tst => decide (R x.shown = x.read)) (fun j hj => hno.out j hj (by rw [← HN3.out]; exact hj))]

theorem whichTo_succ (M : Mask) (t : List Tst) (A : List Flt) (k : Nat) (hk : k < A.length) : (A.take (k + 1)).filter (fun f => explainsF M f t) = (A.take k).filter (fun f => explainsF M f t) ++ (if explainsF M A[k] t then [A[k]] else []) := by
  rw [List.take_succ_eq_append_getElem hk, List.filter_append]
  congr 1
  cases h : explainsF M A[k] t <;> simp [h]

set_option maxRecDepth 100000 in
set_option maxHeartbeats 2000000 in
theorem refWhich_c (w : World) (a : Option Addr) (n cap : Nat) (M : Mask) (hn : M.length = n) (H : RowsAt w a M) (hM : okM M = true) (a3 : Option Addr) (n3 cap3 : Nat) (t : List Tst) (hn3 : t.length = n3) (hm3 : n3 ≤ maxLen) (H3 : TestsAt w a3 t) (hok : ∀ x ∈ t, okTest M x = true) :
    Calls Tryz.prog 38 #[.slice a n cap, .slice a3 n3 cap3] w fun e w' => ∃ v base, e = .returned v ∧ w.heap.size ≤ base ∧ FltsO w' base v (whichF M t) ∧ Below w.heap.size w w' := by
  have HA := hid (refAll_c w a n cap M hn H hM)
  have HX := hid (fun (W : World) (hb : Below w.heap.size w W) (f : Flt) (hf : f ∈ allF M) => refExplains_c W a n cap M hn (H.below hb) hM f (all_ok hf) a3 n3 cap3 t hn3 hm3 (H3.below hb) hok)
  have hA240 := all_240 hM
  have hwe : whichF M t = (allF M).filter (fun f => explainsF M f t) := rfl
  rw [hwe]
  obtain ⟨A, hA⟩ : ∃ A, A = allF M := ⟨_, rfl⟩
  rw [← hA] at HA HX hA240 ⊢
  have HTo := hid (whichTo_succ M t A)
  clear hn H hM hn3 H3 hok hA hwe
  go_enter Tryz.func38, Tryz.ntmps38
  go_wp2_with (go_at_call 74; refine HA.out.mono ?_; rintro e w1 ⟨v, base, rfl, hbase, hF, hb1⟩; refine Stop.of ?_)
  refine Stop.go ?_
  obtain ⟨aa, ac, rfl, hm, hE⟩ := hF.reads
  obtain ⟨N, hN⟩ : ∃ N, N = A.length := ⟨_, rfl⟩
  rw [← hN] at hA240 ⊢
  have HN := hid hN
  have HE := hid hE
  have HB1 := hid hb1
  clear hF hE hm hb1 hN hbase
  go_wp2
  go_loopw [5, 11] (fun v i wr => ∃ k : Nat, k ≤ N ∧ i = .int .i64 k ∧ (∃ l, FltsO wr w1.heap.size v l ∧ l.length ≤ k ∧ Hid (l = (A.take k).filter (fun f => explainsF M f t))) ∧ Below w1.heap.size w1 wr) (fun _ i _ => N - (intOf i).toNat)
  case atStart => exact ⟨0, Nat.zero_le _, rfl, ⟨[], FltsO.nil _ _, Nat.le_refl _, hid (by simp)⟩, Below.refl _ _⟩
  case round =>
    obtain ⟨k, hk, rfl, ⟨l, hF, hll, hl⟩, hbk⟩ := hrel
    by_cases hlt : k < N
    · have hkA : k < A.length := by rw [← HN.out]; exact hlt
      obtain ⟨b, off, rfl, hbs, h0, h1, h2⟩ := (HE.out.below hbk) k hkA
      have hmem := List.getElem_mem hkA
      have hto := HTo.out k hkA
      obtain ⟨f, hf⟩ : ∃ f, f = A[k]'hkA := ⟨_, rfl⟩
      rw [← hf] at hto h0 h1 h2 hmem
      obtain ⟨wf, hwf, hbf, hcf⟩ := fltBox wr f
      have HXf := hid (HX.out wf (chain HB1.out (chain hbk hbf)) f hmem)
      obtain ⟨D, hD⟩ : ∃ D, D = explainsF M f t := ⟨_, rfl⟩
      rw [← hD] at HXf hto
      have HTO := hid hto
      have HBK := hid (chain hbk hbf)
      have HF := hid (hF.below hbf)
      have HC := hid hcf
      have HWF := hid hwf
      obtain ⟨_, f0, f1, f2⟩ := hcf wf (Below.refl _ _)
      obtain ⟨va, vc, rfl⟩ := hF.slice
      clear hto hbk hbf hF hcf hwf hmem hf hD
      obtain ⟨q, hq⟩ : ∃ q, q = l.length := ⟨_, rfl⟩
      have HQ := hid hq
      rw [← hq] at hll ⊢
      rw [← hq] at HF
      clear hq
      obtain ⟨kind, row, pixel⟩ := f
      simp only [Flt.val] at HXf HC HWF
      simp only [] at h0 h1 h2 f0 f1 f2
      cases D
      · go_wp2_with fail
        rw [← HWF.out]
        go_wp2_with (go_at_call 36; refine HXf.out.mono ?_; rintro e w3 ⟨rfl, hb3⟩)
        refine ⟨⟨k + 1, by omega, by go_num, ⟨l, HF.out.below hb3, by have := HQ.out; omega, hid (by rw [HTO.out, hl.out]; simp)⟩, chain HBK.out hb3⟩, by simp [intOf]; omega⟩
      · go_wp2_with fail
        rw [← HWF.out]
        go_wp2_with (go_at_call 36; refine HXf.out.mono ?_; rintro e w3 ⟨rfl, hb3⟩; refine Stop.of ?_)
        refine Stop.go ?_
        obtain ⟨_, g0, g1, g2⟩ := HC.out w3 hb3
        have HO := hid (show w3.ownsRow w1.heap.size 25 3 (.slice va q vc) q (fltVals l) by have := HF.out.below hb3; unfold FltsO at this; rw [← HQ.out] at this; exact this)
        have HB3 := hid (chain HBK.out hb3)
        have M1 := hid (show q + 1 ≤ maxLen by unfold maxLen; omega)
        have M2 := hid (show (q + 1) * 24 ≤ 140737488355328 by omega)
        have M3 := hid (show w1.heap.size ≤ (w3.alloc (.cells (fltCells ⟨kind, row, pixel⟩).toArray 25)).heap.size by have := HB3.out.size; simp; omega)
        clear hb3
        go_wp2_with (at_builtin; refine wpList_app _ rfl (.tmp 19) (.tmp 21) 36 rfl w1.heap.size 25 (.agg #[.int .i64 0, .int .i64 0, .int .i64 0]) 3 24 Tryz.underlying36 info_fault rfl (by decide) (.slice va q vc) q _ rfl (HO.out.alloc _) (some ⟨w3.heap.size, 0, none⟩) 1 1 (fltCells ⟨kind, row, pixel⟩) rfl rfl no_none (flt_newsA w3 ⟨kind, row, pixel⟩ _) (flt_one _) M1.out M2.out M3.out ?_; refine Stop.of ?_)
        refine Stop.go ?_
        intro a4 c4 w4 own4 g4
        have hb4 : Below w1.heap.size w1 w4 := (HB3.out.alloc HB3.out.size _).grown g4 M3.out (fun q hq => (HO.out.lt q hq).1)
        go_wp2
        refine ⟨⟨k + 1, by omega, by go_num, ⟨l ++ [⟨kind, row, pixel⟩], FltsO.snoc HQ.out.symm own4, by rw [List.length_append, ← HQ.out]; simp; omega, hid ?_⟩, hb4⟩, by simp [intOf]; omega⟩
        rw [HTO.out, hl.out]; simp
    · obtain rfl : k = N := by omega
      have e : l = A.filter (fun f => explainsF M f t) := by rw [hl.out, HN.out, List.take_length]
      subst e
      go_wp2
      go_ret
      exact ⟨_, w1.heap.size, rfl, HB1.out.size, hF, chain HB1.out hbk⟩
end Go.Proofs.YthaampmdponhbaaGreatDoor

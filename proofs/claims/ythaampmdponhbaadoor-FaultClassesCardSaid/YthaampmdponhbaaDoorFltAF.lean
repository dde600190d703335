/- Walks of the reference: classes. -/
import Derived.Test.YthaampmdponhbaaDoorFltAE
import Derived.IntWalk
import Derived.Test.YthaampmdponhbaaDoorTake
namespace Go.Proofs.YthaampmdponhbaaDoor
open Go.RowKit
set_option linter.unusedVariables false

set_option maxRecDepth 100000 in
set_option maxHeartbeats 4000000 in
theorem refClasses_c (w : World) (a : Option Addr) (n cap : Nat) (M : Mask) (hn : M.length = n) (H : RowsAt w a M) (hM : okM M = true) (a2 : Option Addr) (n2 cap2 : Nat) (L : List (List Int)) (hn2 : L.length = n2) (hm2 : n2 ≤ 12) (H2 : RowsAt w a2 L) (hx : ∀ x ∈ L, okShown M x = true) :
    Calls Tryd.prog 49 #[.slice a n cap, .slice a2 n2 cap2] w fun e w' => ∃ v base, e = .returned v ∧ w.heap.size ≤ base ∧ w'.ownsRow base 3 1 v (allF M).length ((classF M L).map (Value.int .i64)) ∧ Below w.heap.size w w' := by
  have HA := hid (refAll_c w a n cap M hn H hM)
  have HP := hid (fun (W : World) (hb : Below w.heap.size w W) (f g : Flt) (hf : f ∈ allF M) (hg : g ∈ allF M) => refPart_c W a n cap M hn (H.below hb) hM f g (all_ok hf) (all_ok hg) a2 n2 cap2 L hn2 (by unfold maxLen; omega) (H2.below hb) hx)
  have hA240 := all_240 hM
  have HCS := hid (fun k hk => classTo_succ M L k hk)
  have HCA := hid (classTo_all M L)
  have HCL := hid (fun k hk => classTo_length M L k hk)
  have HC0 := hid (show classTo M L 0 = [] from rfl)
  have HRE := hid (fun f => sameR_refl M L f)
  clear hn H hn2 H2 hx hm2 hM
  obtain ⟨A, hA⟩ : ∃ A, A = allF M := ⟨_, rfl⟩
  rw [← hA] at HA HP hA240 HCS HCA HCL ⊢
  have HIX := hid (fun (f : Flt) (k : Nat) (hk : k < A.length) (h : sameR M L f A[k] = true) (hno : ∀ i (hi : i < k), sameR M L f A[i] = false) => idxR_eq (M := M) (L := L) (A := A) (f := f) hk h hno)
  clear hA
  go_enter Tryd.func49, Tryd.ntmps49
  go_wp2_with (go_at_call 51; refine HA.out.mono ?_; rintro e w1 ⟨v, base, rfl, hbase, hF, hb1⟩; refine Stop.of ?_)
  refine Stop.go ?_
  obtain ⟨aa, ac, rfl, hm, hE⟩ := hF.reads
  obtain ⟨N, hN⟩ : ∃ N, N = A.length := ⟨_, rfl⟩
  rw [← hN] at hA240 ⊢
  have HN := hid hN
  have HE := hid hE
  have HB1 := hid hb1
  clear hF hE hm hb1 hN hbase
  go_wp2
  go_loopw [5, 14] (fun v i wr => ∃ k : Nat, k ≤ N ∧ i = .int .i64 k ∧ wr.ownsRow w1.heap.size 3 1 v k ((classTo M L k).map (Value.int .i64)) ∧ Below w1.heap.size w1 wr) (fun _ i _ => N - (intOf i).toNat)
  case atStart => exact ⟨0, Nat.zero_le _, rfl, by rw [HC0.out]; exact World.ownsRow_nil _ _ _ _, Below.refl _ _⟩
  case round =>
    obtain ⟨k, hk, rfl, hown, hbk⟩ := hrel
    by_cases hlt : k < N
    · have hkA : k < A.length := by rw [← HN.out]; exact hlt
      obtain ⟨b, off, rfl, hbs, h0, h1, h2⟩ := (HE.out.below hbk) k hkA
      have hmem := List.getElem_mem hkA
      have hcs := HCS.out k hkA
      obtain ⟨f, hf⟩ : ∃ f, f = A[k]'hkA := ⟨_, rfl⟩
      rw [← hf] at hcs h0 h1 h2 hmem
      have hself : sameR M L f (A[k]'hkA) = true := by rw [← hf]; exact HRE.out f
      have HSelf := hid hself
      obtain ⟨wo, hwo⟩ : ∃ wo, wo = wr := ⟨_, rfl⟩
      subst hwo
      obtain ⟨wf, hwf⟩ : ∃ wf, wf = wo.alloc (.cells #[.int .i64 f.kind, .int .i64 f.row, .int .i64 f.pixel] 34) := ⟨_, rfl⟩
      have hbf : Below wo.heap.size wo wf := by rw [hwf]; exact (Below.refl _ _).alloc (Nat.le_refl _) _
      have hfc : FC wf wo.heap.size f.kind f.row f.pixel := by rw [hwf]; exact FC.new _ _ _ _ _
      have hsf : wf.heap.size = wo.heap.size + 1 := by rw [hwf]; simp
      have hIX := fun (j : Nat) (hj : j < A.length) (h : sameR M L f A[j] = true) (hno : ∀ i (hi : i < j), sameR M L f A[i] = false) => HIX.out f j hj h hno
      have HI := hid hIX
      have HM := hid hmem
      have HBW := hid (chain HB1.out (chain hbk hbf))
      have HBK := hid (chain hbk hbf)
      have HFC := hid hfc
      have HSF := hid hsf
      have HWF := hid hwf
      have HCSk := hid hcs
      have HOW := hid (own_below hown hbf)
      clear hf hself hbk hbf hfc hsf hwf hcs hmem hown hIX
      obtain ⟨kind, row, pixel⟩ := f
      simp only [] at h0 h1 h2 HFC HWF
      obtain ⟨va, vc, rfl⟩ := ownsRow_slice HOW.out
      go_wp2
      rw [← HWF.out]
      go_loopw [9] (fun v wr => ∃ j : Nat, j ≤ k ∧ v = .int .i64 j ∧ Hid (∀ i (hi : i < A.length), i < j → sameR M L ⟨kind, row, pixel⟩ A[i] = false) ∧ Below wf.heap.size wf wr) (fun v _ => k - (intOf v).toNat)
      case atStart => exact ⟨0, Nat.zero_le _, rfl, hid (fun i _ h => by omega), Below.refl _ _⟩
      case round =>
        obtain ⟨j, hj, rfl, hno, hbj⟩ := hrel
        have hFIN : ∀ wq : World, Below wf.heap.size wf wq → sameR M L ⟨kind, row, pixel⟩ (A[j]'(by rw [← HN.out]; omega)) = true → wq.ownsRow w1.heap.size 3 1 (.slice va k vc) k ((classTo M L k).map (Value.int .i64)) ∧ classTo M L (k + 1) = classTo M L k ++ [(j : Int)] ∧ Below w1.heap.size w1 wq := by
          intro wq hq hs
          refine ⟨own_below HOW.out hq, ?_, chain HBK.out hq⟩
          rw [HCSk.out, HI.out j _ hs (fun i hi => hno.out i (by rw [← HN.out]; omega) hi)]
        have HFin := hid hFIN
        clear hFIN
        by_cases hjlt : j < k
        · have hjA : j < A.length := by rw [← HN.out]; omega
          obtain ⟨b2, off2, e2, hbs2, g0, g1, g2⟩ := HE.out j hjA
          have hmg := List.getElem_mem hjA
          obtain ⟨g, hg⟩ : ∃ g, g = A[j]'hjA := ⟨_, rfl⟩
          rw [← hg] at g0 g1 g2 hmg
          cases e2
          obtain ⟨D, hD⟩ : ∃ D, D = sameR M L ⟨kind, row, pixel⟩ g := ⟨_, rfl⟩
          have hbwr := chain HBK.out hbj
          have HCells := hid (fun (W : World) (hb : Below wr.heap.size wr W) => show (W.cell? ⟨wo.heap.size, 0, none⟩ = some (.int .i64 kind) ∧ W.cell? ⟨wo.heap.size, 1, none⟩ = some (.int .i64 row) ∧ W.cell? ⟨wo.heap.size, 2, none⟩ = some (.int .i64 pixel)) ∧ W.cell? ⟨b, off + j * 3, none⟩ = some (.int .i64 g.kind) ∧ W.cell? ⟨b, off + j * 3 + 1, none⟩ = some (.int .i64 g.row) ∧ W.cell? ⟨b, off + j * 3 + 2, none⟩ = some (.int .i64 g.pixel) from by
            have q1 := chain hbwr hb
            have q2 := chain hbj hb
            exact ⟨HFC.out.below (by rw [HSF.out]; omega) q2, (q1.cell (p := ⟨b, _, none⟩) hbs2).trans g0, (q1.cell (p := ⟨b, _, none⟩) hbs2).trans g1, (q1.cell (p := ⟨b, _, none⟩) hbs2).trans g2⟩)
          have HPart := hid (fun (W : World) (hb : Below wr.heap.size wr W) => HP.out W (chain HBW.out (chain hbj hb)) ⟨kind, row, pixel⟩ g HM.out hmg)
          have hjN : j < N := by omega
          rw [← hD] at HPart
          have HD := hid (show D = sameR M L ⟨kind, row, pixel⟩ (A[j]'hjA) by rw [hD, hg])
          have HBJ := hid hbj
          clear hg hmg hD g0 g1 g2 hbwr hbj
          obtain ⟨gk, gr, gp⟩ := g
          simp only [Flt.val] at HPart HCells
          have hji : (j : Int) < (k : Int) := by omega
          go_wp2
          refine plain_region (fun j' W => wAll j' = true → ((W.cell? ⟨wo.heap.size, 0, none⟩ = some (.int .i64 kind) ∧ W.cell? ⟨wo.heap.size, 1, none⟩ = some (.int .i64 row) ∧ W.cell? ⟨wo.heap.size, 2, none⟩ = some (.int .i64 pixel)) ∧ W.cell? ⟨b, off + j * 3, none⟩ = some (.int .i64 gk) ∧ W.cell? ⟨b, off + j * 3 + 1, none⟩ = some (.int .i64 gr) ∧ W.cell? ⟨b, off + j * 3 + 2, none⟩ = some (.int .i64 gp))) (by kernel_rfl) ?_
          have hbd : Below wr.heap.size wr wr.drew := (Below.refl _ _).drew
          generalize wr.drew = wd at hbd ⊢
          refine AnyT.takeD (i := 0) (v := .int .i64 j) rfl rfl (by kernel_rfl) (by kernel_rfl) (by kernel_rfl) (by first | exact (fun _ _ _ h => h) | exact (fun _ _ _ h => absurd h.1 (by simp))) (by kernel_rfl) (by rfl) (by rintro w' hw'; go_simp) (HCells.out _ hbd) ?_; go_frame
          refine AnyT.takeD (i := 1) (v := .int .i64 k) rfl rfl (by kernel_rfl) (by kernel_rfl) (by kernel_rfl) (by first | exact (fun _ _ _ h => h) | exact (fun _ _ _ h => absurd h.1 (by simp))) (by kernel_rfl) (by rfl) (by rintro w' hw'; go_simp) (HCells.out _ hbd) ?_; go_frame
          refine AnyT.takeD (i := 2) (v := .bool true) rfl rfl (by kernel_rfl) (by kernel_rfl) (by kernel_rfl) (by first | exact (fun _ _ _ h => h) | exact (fun _ _ _ h => absurd h.1 (by simp))) (by kernel_rfl) (by rfl) (by rintro w' hw'; go_simp) (HCells.out _ hbd) ?_; go_frame
          refine AnyT.takeD (i := 3) (v := .bool true) rfl rfl (by kernel_rfl) (by kernel_rfl) (by kernel_rfl) (by first | exact (fun _ _ _ h => h) | exact (fun _ _ _ h => absurd h.1 (by simp))) (by kernel_rfl) (by rfl) (by rintro w' hw'; go_simp) (HCells.out _ hbd) ?_; go_frame
          refine AnyT.takeD (i := 4) (v := .slice a n cap) rfl rfl (by kernel_rfl) (by kernel_rfl) (by kernel_rfl) (by first | exact (fun _ _ _ h => h) | exact (fun _ _ _ h => absurd h.1 (by simp))) (by kernel_rfl) (by rfl) (by rintro w' hw'; go_simp) (HCells.out _ hbd) ?_; go_frame
          refine AnyT.takeD (i := 5) (v := .agg #[.int .i64 kind, .int .i64 row, .int .i64 pixel]) rfl rfl (by kernel_rfl) (by kernel_rfl) (by kernel_rfl) (by first | exact (fun _ _ _ h => h) | exact (fun _ _ _ h => absurd h.1 (by simp))) (by kernel_rfl) (by rfl) (by rintro w' ⟨⟨q0, q1, q2⟩, q3, q4, q5⟩; go_simp) (HCells.out _ hbd) ?_; go_frame
          refine AnyT.takeD (i := 6) (v := .slice (some ⟨b, off, none⟩) N ac) rfl rfl (by kernel_rfl) (by kernel_rfl) (by kernel_rfl) (by first | exact (fun _ _ _ h => h) | exact (fun _ _ _ h => absurd h.1 (by simp))) (by kernel_rfl) (by rfl) (by rintro w' hw'; go_simp) (HCells.out _ hbd) ?_; go_frame
          refine AnyT.takeD (i := 7) (v := .int .i64 j) rfl rfl (by kernel_rfl) (by kernel_rfl) (by kernel_rfl) (by first | exact (fun _ _ _ h => h) | exact (fun _ _ _ h => absurd h.1 (by simp))) (by kernel_rfl) (by rfl) (by rintro w' hw'; go_simp) (HCells.out _ hbd) ?_; go_frame
          refine AnyT.takeD (i := 8) (v := .pointer (some ⟨b, off + j * 3, none⟩)) rfl rfl (by kernel_rfl) (by kernel_rfl) (by kernel_rfl) (by first | exact (fun _ _ _ h => h) | exact (fun _ _ _ h => absurd h.1 (by simp))) (by kernel_rfl) (by rfl) (by rintro w' hw'; go_simp) (HCells.out _ hbd) ?_; go_frame
          refine AnyT.takeD (i := 9) (v := .agg #[.int .i64 gk, .int .i64 gr, .int .i64 gp]) rfl rfl (by kernel_rfl) (by kernel_rfl) (by kernel_rfl) (by first | exact (fun _ _ _ h => h) | exact (fun _ _ _ h => absurd h.1 (by simp))) (by kernel_rfl) (by rfl) (by rintro w' ⟨⟨q0, q1, q2⟩, q3, q4, q5⟩; go_simp) (HCells.out _ hbd) ?_; go_frame
          refine AnyT.takeD (i := 10) (v := .slice a2 n2 cap2) rfl rfl (by kernel_rfl) (by kernel_rfl) (by kernel_rfl) (by first | exact (fun _ _ _ h => h) | exact (fun _ _ _ h => absurd h.1 (by simp))) (by kernel_rfl) (by rfl) (by rintro w' hw'; go_simp) (HCells.out _ hbd) ?_; go_frame
          refine AnyT.next (i := 11) (by kernel_rfl) rfl (wpOp_of_list rfl ?_)
          go_wp2_with (go_at_call 47; refine (HPart.out _ hbd).mono ?_; rintro e w4 ⟨rfl, hbl4⟩; refine Stop.of ?_)
          refine Stop.go ?_
          have HW4 := hid (chain hbd hbl4)
          clear hbd hbl4
          go_wp2
          refine ⟨fun _ => HCells.out _ HW4.out, ?_⟩
          refine AnyT.next (i := 12) (by kernel_rfl) rfl (wpOp_of_list rfl ?_)
          go_wp2
          refine ⟨fun _ => HCells.out _ HW4.out, ?_⟩
          refine AnyT.done (by kernel_rfl) ?_ _
          cases D
          · go_wp2
            refine ⟨⟨j + 1, by omega, by go_num, hid (fun i hi hij => ?_), chain HBJ.out HW4.out⟩, by simp [intOf]; omega⟩
            rcases Nat.lt_or_ge i j with h | h
            · exact hno.out i hi h
            · obtain rfl : i = j := by omega
              exact HD.out.symm
          · obtain ⟨ho, hct, hbq⟩ := HFin.out w4 (chain HBJ.out HW4.out) HD.out.symm
            have HO := hid ho
            have HCT := hid hct
            have HBQ := hid hbq
            have M1 := hid (show k + 1 ≤ maxLen by unfold maxLen; omega)
            have M2 := hid (show (k + 1) * 8 ≤ 140737488355328 by omega)
            have M3 := hid (Nat.le_trans hbq.size (le_alloc w4 (.cells #[.int .i64 (j : Int)] 3)))
            clear ho hct hbq
            go_wp2_with (at_builtin; refine wpList_app _ rfl (.tmp 34) (.tmp 36) 30 rfl w1.heap.size 3 (.int .i64 0) 1 8 Tryd.underlying30 info_int rfl Nat.one_pos (.slice va k vc) k _ rfl (HO.out.alloc _) (some ⟨w4.heap.size, 0, none⟩) 1 1 [.int .i64 (j : Int)] rfl rfl no_none (one_news w4 _ _) (oneI _) M1.out M2.out M3.out ?_; refine Stop.of ?_)
            refine Stop.go ?_
            intro a3 c3 w5 own3 g3
            have hB3 : Below w1.heap.size w1 w5 := (HBQ.out.alloc HBQ.out.size _).grown g3 M3.out (fun q hq => (HO.out.lt q hq).1)
            go_wp2
            refine ⟨⟨k + 1, by omega, by go_num, ?_, hB3⟩, by simp [intOf]; omega⟩
            rw [HCT.out, snoc_int rfl]
            exact own3
        · obtain rfl : j = k := by omega
          obtain ⟨ho, hct, hbq⟩ := HFin.out wr hbj HSelf.out
          have HO := hid ho
          have HCT := hid hct
          have HBQ := hid hbq
          have M1 := hid (show j + 1 ≤ maxLen by unfold maxLen; omega)
          have M2 := hid (show (j + 1) * 8 ≤ 140737488355328 by omega)
          clear ho hct hbq hno HSelf HFin
          go_wp2
          go_quiet (fail)
          have M3 := hid (Nat.le_trans HBQ.out.size (le_alloc (wr.drewN nq) (.cells #[.int .i64 (j : Int)] 3)))
          go_wp2_with (at_builtin; refine wpList_app _ rfl (.tmp 34) (.tmp 36) 30 rfl w1.heap.size 3 (.int .i64 0) 1 8 Tryd.underlying30 info_int rfl Nat.one_pos (.slice va j vc) j _ rfl ((own_below HO.out (below_drewN (Below.refl _ _) _)).alloc _) (some ⟨(wr.drewN nq).heap.size, 0, none⟩) 1 1 [.int .i64 (j : Int)] rfl rfl no_none (one_news (wr.drewN nq) _ _) (oneI _) M1.out M2.out M3.out ?_; refine Stop.of ?_)
          refine Stop.go ?_
          intro a3 c3 w5 own3 g3
          have hB3 : Below w1.heap.size w1 w5 := ((below_drewN HBQ.out _).alloc HBQ.out.size _).grown g3 M3.out (fun q hq => (HO.out.lt q hq).1)
          go_wp2
          refine ⟨⟨j + 1, by omega, by go_num, ?_, hB3⟩, by simp [intOf]; omega⟩
          rw [HCT.out, snoc_int rfl]
          exact own3
    · obtain rfl : k = N := by omega
      go_wp2
      go_ret
      refine ⟨_, w1.heap.size, rfl, HB1.out.size, ?_, chain HB1.out hbk⟩
      rw [← HCA.out, ← HN.out]
      exact hown
end Go.Proofs.YthaampmdponhbaaDoor

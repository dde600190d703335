/- Walks of the reference: all, All. -/
import Derived.Test.YthaampmdponhbaaGreatDoorFltW
namespace Go.Proofs.YthaampmdponhbaaGreatDoor
open Go.RowKit
set_option linter.unusedVariables false

theorem any_succ {α : Type} (p : α → Bool) (l : List α) (k : Nat) (hk : k < l.length) : (l.take (k + 1)).any p = ((l.take k).any p || p l[k]) := by
  rw [List.take_succ_eq_append_getElem hk, List.any_append]; simp

/-- a fault's cells -/
def FC (W : World) (b : Nat) (k r p : Int) : Prop := W.cell? ⟨b, 0, none⟩ = some (.int .i64 k) ∧ W.cell? ⟨b, 1, none⟩ = some (.int .i64 r) ∧ W.cell? ⟨b, 2, none⟩ = some (.int .i64 p)
theorem FC.below {W W' : World} {b : Nat} {k r p : Int} (h : FC W b k r p) (hlt : b < W.heap.size) (hb : Below W.heap.size W W') : FC W' b k r p :=
  ⟨(hb.cell (p := ⟨b, 0, none⟩) hlt).trans h.1, (hb.cell (p := ⟨b, 1, none⟩) hlt).trans h.2.1, (hb.cell (p := ⟨b, 2, none⟩) hlt).trans h.2.2⟩
theorem FC.new (W : World) (k r p : Int) (T : TypeId) : FC (W.alloc (.cells #[.int .i64 k, .int .i64 r, .int .i64 p] T)) W.heap.size k r p := by
  refine ⟨?_, ?_, ?_⟩ <;> (rw [World.cell?_alloc_at _ _ _ _ rfl]; rfl)

theorem sameMask_b (W : World) (a a2 : Option Addr) (n cap cap2 : Nat) (A B : Mask) (D : Bool) (hn : A.length = n) (hn2 : B.length = n) (hm : n ≤ maxLen) (H : RowsAt W a A) (H2 : RowsAt W a2 B) (hD : D = decide (A = B)) :
    Calls Tryz.prog 104 #[.slice a n cap, .slice a2 n cap2] W fun e w' => e = .returned (.bool D) ∧ Below W.heap.size W w' := by
  subst hD
  exact (sameMask_c W a a2 n cap n cap2 A B hn hn2 hm hm H H2).mono fun e w' ⟨h1, k, h2⟩ => ⟨h1, by rw [h2]; exact below_drewN (Below.refl _ _) _⟩

set_option maxHeartbeats 4000000 in
set_option maxRecDepth 100000 in
theorem refAll_c (w : World) (a : Option Addr) (n cap : Nat) (M : Mask) (hn : M.length = n) (H : RowsAt w a M) (hM : okM M = true) :
    Calls Tryz.prog 74 #[.slice a n cap] w fun e w' => ∃ v base, e = .returned v ∧ w.heap.size ≤ base ∧ FltsO w' base v (allF M) ∧ Below w.heap.size w w' := by
  have HEv := hid (refEvery_c w a n cap M hn H hM)
  rw [← everyF_list hM] at HEv
  have hL240 := every_240 hM
  have hn6 : n ≤ 6 := by have := (okM_len hM).2.1; omega
  have HFa := hid (fun (W : World) (hb : Below w.heap.size w W) (f : Flt) (hf : okF M f = true) => refFaulty_r W a n cap M hn (H.below hb) hM f hf)
  have HMl := hid (fun (f : Flt) => show (faultyM M f).length = n by rw [faultyM_row, hn])
  have HOK := hid (fun (f : Flt) (hf : f ∈ everyF M) => every_ok hf)
  have HTO := hid (allTo_snoc M)
  have HAL := hid (allTo_length M)
  have HAM := hid (fun (xs : List Flt) (f : Flt) => @allTo_mem M xs f)
  have hall : allF M = allTo M (everyF M) := rfl
  rw [hall]
  obtain ⟨LL, hLL⟩ : ∃ LL, LL = everyF M := ⟨_, rfl⟩
  rw [← hLL] at HEv HOK hL240 ⊢
  clear hall hn H hM hLL
  go_enter Tryz.func74, Tryz.ntmps74
  go_wp2_with (go_at_call 103; refine HEv.out.mono ?_; rintro e w1 ⟨v, base, rfl, hbase, hF, hb1⟩; refine Stop.of ?_)
  refine Stop.go ?_
  obtain ⟨ea, ec, rfl, hm, hE⟩ := hF.reads
  obtain ⟨L, hL⟩ : ∃ L, L = LL.length := ⟨_, rfl⟩
  rw [← hL] at hL240 ⊢
  have HL := hid hL
  have HE := hid hE
  have HB1 := hid hb1
  clear hF hE hm hb1 hL
  go_wp2
  go_loopw [3, 12] (fun v i wr => ∃ k : Nat, k ≤ L ∧ i = .int .i64 k ∧ FltsO wr w1.heap.size v (allTo M (LL.take k)) ∧ Below w1.heap.size w1 wr) (fun _ i _ => L - (intOf i).toNat)
  case atStart => exact ⟨0, Nat.zero_le _, rfl, FltsO.nil _ _, Below.refl _ _⟩
  case round =>
    obtain ⟨k, hk, rfl, hF, hbk⟩ := hrel
    by_cases hlt : k < L
    · have hkL : k < LL.length := by rw [← HL.out]; exact hlt
      obtain ⟨b, off, rfl, hbs, h0, h1, h2⟩ := (HE.out.below hbk) k hkL
      have hok := HOK.out LL[k] (List.getElem_mem hkL)
      have hto := HTO.out (LL.take k) LL[k]
      rw [← List.take_succ_eq_append_getElem hkL] at hto
      have hal := HAL.out (LL.take k)
      rw [List.length_take] at hal
      have hmem : ∀ g ∈ allTo M (LL.take k), okF M g = true := fun g hg => HOK.out g (List.mem_of_mem_take (HAM.out _ _ hg))
      obtain ⟨A, hA⟩ : ∃ A, A = allTo M (LL.take k) := ⟨_, rfl⟩
      rw [← hA] at hto hal hmem hF
      obtain ⟨f, hf⟩ : ∃ f, f = LL[k] := ⟨_, rfl⟩
      rw [← hf] at hto h0 h1 h2 hok
      obtain ⟨wo, hwo⟩ : ∃ wo, wo = wr := ⟨_, rfl⟩
      subst hwo
      obtain ⟨kind, row, pixel⟩ := f
      simp only [] at h0 h1 h2
      obtain ⟨wf, hwf⟩ : ∃ wf, wf = wo.alloc (.cells #[.int .i64 kind, .int .i64 row, .int .i64 pixel] 25) := ⟨_, rfl⟩
      have hbf : Below wo.heap.size wo wf := by rw [hwf]; exact (Below.refl _ _).alloc (Nat.le_refl _) _
      have hfc : FC wf wo.heap.size kind row pixel := by rw [hwf]; exact FC.new _ _ _ _ _
      have hsf : wf.heap.size = wo.heap.size + 1 := by rw [hwf]; simp
      have hFf := hF.below hbf
      obtain ⟨oa, oc, rfl, hom, hO⟩ := hFf.reads
      obtain ⟨q, hq⟩ : ∃ q, q = A.length := ⟨_, rfl⟩
      have hq240 : q ≤ 240 := by omega
      have HQ := hid hq
      have HOA := hid hO
      have HTo := hid hto
      have HMem := hid hmem
      have HOk := hid hok
      have HBK := hid (chain hbk hbf)
      have HFC := hid hfc
      have HFF := hid (show FltsO wf w1.heap.size (.slice oa q oc) A by rw [hq]; exact hFf)
      have HBW := hid (chain HB1.out (chain hbk hbf))
      have HSF := hid hsf
      have HWF := hid hwf
      rw [← hq]
      clear hq hO hto hmem hok hbk hbf hfc hFf hF hA hf hkL hsf hom hal hwf
      go_wp2
      rw [← HWF.out]
      go_loopw [6, 18] (fun v i wr => ∃ j : Nat, j ≤ q ∧ i = .int .i64 j ∧ (∃ T, v = .bool T ∧ Hid (T = (A.take j).any (fun g => decide (faultyM M g = faultyM M ⟨kind, row, pixel⟩)))) ∧ Below wf.heap.size wf wr) (fun _ i _ => q - (intOf i).toNat)
      case atStart => exact ⟨0, Nat.zero_le _, rfl, ⟨_, rfl, hid rfl⟩, Below.refl _ _⟩
      case round =>
        obtain ⟨j, hj, rfl, ⟨T, rfl, hT⟩, hbj⟩ := hrel
        by_cases hjlt : j < q
        · have hjA : j < A.length := by rw [← HQ.out]; exact hjlt
          obtain ⟨b2, off2, rfl, hbs2, h0', h1', h2'⟩ := (HOA.out.below hbj) j hjA
          have hany := any_succ (fun g => decide (faultyM M g = faultyM M ⟨kind, row, pixel⟩)) A j hjA
          have hokg := HMem.out A[j] (List.getElem_mem hjA)
          obtain ⟨g, hg⟩ : ∃ g, g = A[j] := ⟨_, rfl⟩
          rw [← hg] at hany h0' h1' h2' hokg
          have HAny := hid hany
          have HOKg := hid hokg
          have HBJ := hid hbj
          obtain ⟨gk, gr, gp⟩ := g
          simp only [] at h0' h1' h2'
          obtain ⟨wg, hwg⟩ : ∃ wg, wg = wr.alloc (.cells #[.int .i64 gk, .int .i64 gr, .int .i64 gp] 25) := ⟨_, rfl⟩
          have hbg : Below wr.heap.size wr wg := by rw [hwg]; exact (Below.refl _ _).alloc (Nat.le_refl _) _
          have hgc : FC wg wr.heap.size gk gr gp := by rw [hwg]; exact FC.new _ _ _ _ _
          have hsg : wg.heap.size = wr.heap.size + 1 := by rw [hwg]; simp
          have hbwg := chain hbj hbg
          have hfc2 : FC wg wo.heap.size kind row pixel := HFC.out.below (by rw [HSF.out]; omega) hbwg
          have HWG := hid hwg
          clear hany hg hjA hokg hbj hwg
          cases T
          · obtain ⟨D, hD⟩ : ∃ D, D = decide (faultyM M ⟨kind, row, pixel⟩ = faultyM M ⟨gk, gr, gp⟩) := ⟨_, rfl⟩
            have HD := hid hD
            have hs2 : ∀ W, Below wg.heap.size wg W → (W.cell? ⟨wo.heap.size, 0, none⟩ = some (.int .i64 kind) ∧ W.cell? ⟨wo.heap.size, 1, none⟩ = some (.int .i64 row) ∧ W.cell? ⟨wo.heap.size, 2, none⟩ = some (.int .i64 pixel)) ∧ W.cell? ⟨wr.heap.size, 0, none⟩ = some (.int .i64 gk) ∧ W.cell? ⟨wr.heap.size, 1, none⟩ = some (.int .i64 gr) ∧ W.cell? ⟨wr.heap.size, 2, none⟩ = some (.int .i64 gp) := fun W hb =>
              ⟨hfc2.below (by have := hbwg.size; have := HSF.out; omega) hb, hgc.below (by omega) hb⟩
            have HS := hid hs2
            have HBG := hid hbwg
            have HF1 := hid (fun (W : World) (hb : Below wg.heap.size wg W) => HFa.out W (chain (chain HBW.out HBG.out) hb) _ HOk.out)
            have HG1 := hid (fun (W : World) (hb : Below wg.heap.size wg W) => HFa.out W (chain (chain HBW.out HBG.out) hb) _ HOKg.out)
            have HSM := hid (fun (W : World) (a4 a5 : Option Addr) (c4 c5 : Nat) (hA4 : RowsAt W a4 (faultyM M ⟨kind, row, pixel⟩)) (hA5 : RowsAt W a5 (faultyM M ⟨gk, gr, gp⟩)) => sameMask_b W a4 a5 n c4 c5 _ _ D (HMl.out _) (HMl.out _) (by unfold maxLen; omega) hA4 hA5 hD)
            have FIN := hid (fun (W : World) (hb : Below wg.heap.size wg W) => show (D = (A.take (j + 1)).any (fun g => decide (faultyM M g = faultyM M ⟨kind, row, pixel⟩))) ∧ Below wf.heap.size wf W from ⟨by
              rw [HAny.out, ← hT.out, hD, Bool.false_or]
              congr 1
              rw [eq_iff_iff]
              exact eq_comm, chain HBG.out hb⟩)
            simp only [Flt.val] at HF1 HG1
            clear hD hs2 hbwg hfc2 hgc hbg
            go_wp2
            rw [← HWG.out]
            clear HWG
            refine plain_region (fun j W => (fun _ : Nat => true) j = true → ((W.cell? ⟨wo.heap.size, 0, none⟩ = some (.int .i64 kind) ∧ W.cell? ⟨wo.heap.size, 1, none⟩ = some (.int .i64 row) ∧ W.cell? ⟨wo.heap.size, 2, none⟩ = some (.int .i64 pixel)) ∧ W.cell? ⟨wr.heap.size, 0, none⟩ = some (.int .i64 gk) ∧ W.cell? ⟨wr.heap.size, 1, none⟩ = some (.int .i64 gr) ∧ W.cell? ⟨wr.heap.size, 2, none⟩ = some (.int .i64 gp))) (by kernel_rfl) ?_
            have hbd : Below wg.heap.size wg wg.drew := (Below.refl _ _).drew
            generalize wg.drew = wd at hbd ⊢
            refine AnyT.takeW (i := 0) (v := .bool false) rfl (by kernel_rfl) (by kernel_rfl) (by kernel_rfl) (fun _ _ _ h => h) (by kernel_rfl) (by rfl) (by intro w' hw'; go_simp) (HS.out _ hbd) ?_
            refine AnyT.takeW (i := 1) (v := .bool false) rfl (by kernel_rfl) (by kernel_rfl) (by kernel_rfl) (fun _ _ _ h => h) (by kernel_rfl) (by rfl) (by intro w' hw'; go_simp) (HS.out _ hbd) ?_
            refine AnyT.takeW (i := 2) (v := .slice a n cap) rfl (by kernel_rfl) (by kernel_rfl) (by kernel_rfl) (fun _ _ _ h => h) (by kernel_rfl) (by rfl) (by intro w' hw'; go_simp) (HS.out _ hbd) ?_
            refine AnyT.takeW (i := 3) (v := .agg #[.int .i64 kind, .int .i64 row, .int .i64 pixel]) rfl (by kernel_rfl) (by kernel_rfl) (by kernel_rfl) (fun _ _ _ h => h) (by kernel_rfl) (by rfl) (by rintro w' ⟨⟨q0, q1, q2⟩, q3, q4, q5⟩; go_simp) (HS.out _ hbd) ?_
            refine AnyT.takeW (i := 5) (v := .slice a n cap) rfl (by kernel_rfl) (by kernel_rfl) (by kernel_rfl) (fun _ _ _ h => h) (by kernel_rfl) (by rfl) (by intro w' hw'; go_simp) (HS.out _ hbd) ?_
            refine AnyT.takeW (i := 6) (v := .agg #[.int .i64 gk, .int .i64 gr, .int .i64 gp]) rfl (by kernel_rfl) (by kernel_rfl) (by kernel_rfl) (fun _ _ _ h => h) (by kernel_rfl) (by rfl) (by rintro w' ⟨⟨q0, q1, q2⟩, q3, q4, q5⟩; go_simp) (HS.out _ hbd) ?_
            refine AnyT.next (i := 4) (by kernel_rfl) rfl (wpOp_of_list rfl ?_)
            go_wp2_with (go_at_call 81; refine (HF1.out _ hbd).mono ?_; rintro e w4 ⟨v4, b4, rfl, hb4, hR4, hbl4⟩; refine Stop.of ?_)
            refine Stop.go ?_
            obtain ⟨a4, c4, rfl, _, hA4, _⟩ := hR4.reads
            have hw4 := chain hbd hbl4
            rw [HMl.out _]
            go_wp2
            refine ⟨fun _ => HS.out _ hw4, ?_⟩
            refine AnyT.next (i := 7) (by kernel_rfl) rfl (wpOp_of_list rfl ?_)
            go_wp2_with (go_at_call 81; refine (HG1.out _ hw4).mono ?_; rintro e w5 ⟨v5, b5, rfl, hb5, hR5, hbl5⟩; refine Stop.of ?_)
            refine Stop.go ?_
            obtain ⟨a5, c5, rfl, _, hA5, _⟩ := hR5.reads
            have hw5 := chain hw4 hbl5
            have h4 := hA4.below hbl5
            have h5 := hA5
            rw [HMl.out _]
            go_wp2
            refine ⟨fun _ => HS.out _ hw5, ?_⟩
            refine AnyT.next (i := 8) (by kernel_rfl) rfl (wpOp_of_list rfl ?_)
            go_wp2_with (go_at_call 104; refine (HSM.out w5 a4 a5 c4 c5 h4 h5).mono ?_; rintro e w6 ⟨rfl, hbl6⟩; refine Stop.of ?_)
            refine Stop.go ?_
            have hw6 := chain hw5 hbl6
            go_wp2
            refine ⟨fun _ => HS.out _ hw6, ?_⟩
            refine AnyT.next (i := 9) (by kernel_rfl) rfl (wpOp_of_list rfl ?_)
            go_wp2
            refine ⟨fun _ => HS.out _ hw6, ?_⟩
            refine AnyT.next (i := 10) (by kernel_rfl) rfl (wpOp_of_list rfl ?_)
            go_wp2
            refine ⟨fun _ => HS.out _ hw6, ?_⟩
            refine AnyT.done (by kernel_rfl) ?_ _
            go_wp2
            exact ⟨⟨j + 1, by omega, by go_num, ⟨_, rfl, hid (FIN.out _ hw6).1⟩, (FIN.out _ hw6).2⟩, by simp [intOf]; omega⟩
          · have FIN := hid (show (true = (A.take (j + 1)).any (fun g => decide (faultyM M g = faultyM M ⟨kind, row, pixel⟩))) ∧ Below wf.heap.size wf wg from ⟨by rw [HAny.out, ← hT.out, Bool.true_or], hbwg⟩)
            go_wp2
            rw [← HWG.out]
            go_quiet (fail)
            go_wp2
            exact ⟨⟨j + 1, by omega, by go_num, ⟨_, rfl, hid FIN.out.1⟩, below_drewN FIN.out.2 _⟩, by simp [intOf]; omega⟩
        · obtain rfl : j = q := by omega
          have hT2 : T = A.any (fun g => decide (faultyM M g = faultyM M ⟨kind, row, pixel⟩)) := by rw [hT.out, List.take_of_length_le (by rw [← HQ.out]; exact Nat.le_refl _)]
          have hto := HTo.out
          rw [← hT2] at hto
          obtain ⟨q0, q1, q2⟩ := HFC.out.below (by rw [HSF.out]; omega) hbj
          have HFO := hid (HFF.out.below hbj)
          have HTO2 := hid hto
          have HBJ := hid hbj
          clear hto hT2 hbj
          cases T
          · have HOw := hid (show wr.ownsRow w1.heap.size 25 3 (.slice oa j oc) j (fltVals A) by have := HFO.out; unfold FltsO at this; rw [← HQ.out] at this; exact this)
            have M1 := hid (show j + 1 ≤ maxLen by unfold maxLen; omega)
            have M2 := hid (show (j + 1) * 24 ≤ 140737488355328 by omega)
            have M3 := hid (show w1.heap.size ≤ (wr.alloc (.cells (fltCells ⟨kind, row, pixel⟩).toArray 25)).heap.size by have := HBK.out.size; have := HBJ.out.size; simp; omega)
            go_wp2_with (at_builtin; refine wpList_app _ rfl (.tmp 35) (.tmp 37) 36 rfl w1.heap.size 25 (.agg #[.int .i64 0, .int .i64 0, .int .i64 0]) 3 24 Tryz.underlying36 info_fault rfl (by decide) (.slice oa j oc) j _ rfl (HOw.out.alloc _) (some ⟨wr.heap.size, 0, none⟩) 1 1 (fltCells ⟨kind, row, pixel⟩) rfl rfl no_none (flt_newsA wr ⟨kind, row, pixel⟩ _) (flt_one _) M1.out M2.out M3.out ?_; refine Stop.of ?_)
            refine Stop.go ?_
            intro a3 c3 w3 own3 g3
            have hb3 : Below w1.heap.size w1 w3 := ((chain HBK.out HBJ.out).alloc (by have := HBK.out.size; have := HBJ.out.size; omega) _).grown g3 M3.out (fun q hq => (HOw.out.lt q hq).1)
            go_wp2
            refine ⟨⟨k + 1, by omega, by go_num, ?_, hb3⟩, by simp [intOf]; omega⟩
            rw [HTO2.out, if_neg (by simp)]
            exact FltsO.snoc HQ.out.symm own3
          · go_wp2
            refine ⟨⟨k + 1, by omega, by go_num, ?_, chain HBK.out HBJ.out⟩, by simp [intOf]; omega⟩
            rw [HTO2.out, if_pos rfl]
            exact HFO.out
    · obtain rfl : k = L := by omega
      rw [List.take_of_length_le (by rw [← HL.out]; exact Nat.le_refl _)] at hF
      go_wp2
      go_ret
      exact ⟨_, w1.heap.size, rfl, HB1.out.size, hF, chain HB1.out hbk⟩
end Go.Proofs.YthaampmdponhbaaGreatDoor

/- Walks and plain laws for FaultPlaysRow, part 4. -/
import Derived.Lib.SliceRun
import Derived.Test.YthaampmdponhbaaGreatDoorPkFaultPlaysRow3
namespace Go.Proofs.YthaampmdponhbaaGreatDoor
open Go.RowKit
set_option linter.unusedVariables false

theorem any_succ {α : Type} (p : α → Bool) (l : List α) (k : Nat) (hk : k < l.length) : (l.take (k + 1)).any p = ((l.take k).any p || p l[k]) := by
  rw [List.take_succ_eq_append_getElem hk, List.any_append]; simp

def FC (W : World) (b : Nat) (k r p : Int) : Prop := W.cell? ⟨b, 0, none⟩ = some (.int .i64 k) ∧ W.cell? ⟨b, 1, none⟩ = some (.int .i64 r) ∧ W.cell? ⟨b, 2, none⟩ = some (.int .i64 p)
theorem FC.below {W W' : World} {b : Nat} {k r p : Int} (h : FC W b k r p) (hlt : b < W.heap.size) (hb : Below W.heap.size W W') : FC W' b k r p :=
  ⟨(hb.cell (p := ⟨b, 0, none⟩) hlt).trans h.1, (hb.cell (p := ⟨b, 1, none⟩) hlt).trans h.2.1, (hb.cell (p := ⟨b, 2, none⟩) hlt).trans h.2.2⟩
theorem FC.new (W : World) (k r p : Int) (T : TypeId) : FC (W.alloc (.cells #[.int .i64 k, .int .i64 r, .int .i64 p] T)) W.heap.size k r p := by
  refine ⟨?_, ?_, ?_⟩ <;> (rw [World.cell?_alloc_at _ _ _ _ rfl]; rfl)

theorem sameMask_b (W : World) (a a2 : Option Addr) (n cap cap2 : Nat) (A B : Mask) (D : Bool) (hn : A.length = n) (hn2 : B.length = n) (hm : n ≤ maxLen) (H : RowsAt W a A) (H2 : RowsAt W a2 B) (hD : D = decide (A = B)) :
    Calls Tryz.prog 104 #[.slice a n cap, .slice a2 n cap2] W fun e w' => e = .returned (.bool D) ∧ Below W.heap.size W w' := by
  subst hD
  exact (sameMask_c W a a2 n cap n cap2 A B hn hn2 hm hm H H2).mono fun e w' ⟨h1, k, h2⟩ => ⟨h1, by rw [h2]; exact below_drewN (Below.refl _ _) _⟩

set_option maxHeartbeats 4000000 in
set_option maxRecDepth 100000 in
theorem refAll_c (w : World) (a : Option Addr) (n cap : Nat) (M : Mask) (hn : M.length = n) (H : RowsAt w a M) (hM : okM M = true) :
    Calls Tryz.prog 74 #[.slice a n cap] w fun e w' => ∃ v base, e = .returned v ∧ w.heap.size ≤ base ∧ FltsO w' base v (allF M) ∧ Below w.heap.size w w' := by
  have HEv := hid (refEvery_c w a n cap M hn H hM)
  rw [← everyF_list hM] at HEv
  have hL240 := every_240 hM
  have hn6 : n ≤ 6 := by have := (okM_len hM).2.1; omega
  have HFa := hid (fun (W : World) (hb : Below w.heap.size w W) (f : Flt) (hf : okF M f = true) => refFaulty_r W a n cap M hn (H.below hb) hM f hf)
  have HMl := hid (fun (f : Flt) => show (faultyM M f).length = n by rw [faultyM_row, hn])
  have HOK := hid (fun (f : Flt) (hf : f ∈ everyF M) => every_ok hf)
  have HTO := hid (allTo_snoc M)
  have HAL := hid (allTo_length M)
  have HAM := hid (fun (xs : List Flt) (f : Flt) => @allTo_mem M xs f)
  have hall : allF M = allTo M (everyF M) := rfl
  rw [hall]
  obtain ⟨LL, hLL⟩ : ∃ LL, LL = everyF M := ⟨_, rfl⟩
  rw [← hLL] at HEv HOK hL240 ⊢
  clear hall hn H hM hLL
  go_enter Tryz.func74, Tryz.ntmps74
  go_wp2_with (go_at_call 103; refine HEv.out.mono ?_; rintro e w1 ⟨v, base, rfl, hbase, hF, hb1⟩; refine Stop.of ?_)
  refine Stop.go ?_
  obtain ⟨ea, ec, rfl, hm, hE⟩ := hF.reads
  obtain ⟨L, hL⟩ : ∃ L, L = LL.length := ⟨_, rfl⟩
  rw [← hL] at hL240 ⊢
  have HL := hid hL
  have HE := hid hE
  have HB1 := hid hb1
  clear hF hE hm hb1 hL
  go_wp2
  go_loopw [3, 12] (fun v i wr => ∃ k : Nat, k ≤ L ∧ i = .int .i64 k ∧ FltsO wr w1.heap.size v (allTo M (LL.take k)) ∧ Below w1.heap.size w1 wr) (fun _ i _ => L - (intOf i).toNat)
  case atStart => exact ⟨0, Nat.zero_le _, rfl, FltsO.nil _ _, Below.refl _ _⟩
  case round =>
    obtain ⟨k, hk, rfl, hF, hbk⟩ := hrel
    by_cases hlt : k < L
    · have hkL : k < LL.length := by rw [← HL.out]; exact hlt
      obtain ⟨b, off, rfl, hbs, h0, h1, h2⟩ := (HE.out.below hbk) k hkL
      have hok := HOK.out LL[k] (List.getElem_mem hkL)
      have hto := HTO.out (LL.take k) LL[k]
      rw [← List.take_succ_eq_append_getElem hkL] at hto
      have hal := HAL.out (LL.take k)
      rw [List.length_take] at hal
      have hmem : ∀ g ∈ allTo M (LL.take k), okF M g = true := fun g hg => HOK.out g (List.mem_of_mem_take (HAM.out _ _ hg))
      obtain ⟨A, hA⟩ : ∃ A, A = allTo M (LL.take k) := ⟨_, rfl⟩
      rw [← hA] at hto hal hmem hF
      obtain ⟨f, hf⟩ : ∃ f, f = LL[k] := ⟨_, rfl⟩
      rw [← hf] at hto h0 h1 h2 hok
      obtain ⟨wo, hwo⟩ : ∃ wo, wo = wr := ⟨_, rfl⟩
      subst hwo
      obtain ⟨kind, row, pixel⟩ := f
      simp only [] at h0 h1 h2
      obtain ⟨wf, hwf⟩ : ∃ wf, wf = wo.alloc (.cells #[.int .i64 kind, .int .i64 row, .int .i64 pixel] 25) := ⟨_, rfl⟩
      have hbf : Below wo.heap.size wo wf := by rw [hwf]; exact (Below.refl _ _).alloc (Nat.le_refl _) _
      have hfc : FC wf wo.heap.size kind row pixel := by rw [hwf]; exact FC.new _ _ _ _ _
      have hsf : wf.heap.size = wo.heap.size + 1 := by rw [hwf]; simp
      have hFf := hF.below hbf
      obtain ⟨oa, oc, rfl, hom, hO⟩ := hFf.reads
      obtain ⟨q, hq⟩ : ∃ q, q = A.length := ⟨_, rfl⟩
      have hq240 : q ≤ 240 := by omega
      have HQ := hid hq
      have HOA := hid hO
      have HTo := hid hto
      have HMem := hid hmem
      have HOk := hid hok
      have HBK := hid (chain hbk hbf)
      have HFC := hid hfc
      have HFF := hid (show FltsO wf w1.heap.size (.slice oa q oc) A by rw [hq]; exact hFf)
      have HBW := hid (chain HB1.out (chain hbk hbf))
      have HSF := hid hsf
      have HWF := hid hwf
      rw [← hq]
      clear hq hO hto hmem hok hbk hbf hfc hFf hF hA hf hkL hsf hom hal hwf
      go_wp2
      rw [← HWF.out]
      go_loopw [6, 18] (fun v i wr => ∃ j : Nat, j ≤ q ∧ i = .int .i64 j ∧ (∃ T, v = .bool T ∧ Hid (T = (A.take j).any (fun g => decide (faultyM M g = faultyM M ⟨kind, row, pixel⟩)))) ∧ Below wf.heap.size wf wr) (fun _ i _ => q - (intOf i).toNat)
      case atStart => exact ⟨0, Nat.zero_le _, rfl, ⟨_, rfl, hid rfl⟩, Below.refl _ _⟩
      case round =>
        obtain ⟨j, hj, rfl, ⟨T, rfl, hT⟩, hbj⟩ := hrel
        by_cases hjlt : j < q
        · have hjA : j < A.length := by rw [← HQ.out]; exact hjlt
          obtain ⟨b2, off2, rfl, hbs2, h0', h1', h2'⟩ := (HOA.out.below hbj) j hjA
          have hany := any_succ (fun g => decide (faultyM M g = faultyM M ⟨kind, row, pixel⟩)) A j hjA
          have hokg := HMem.out A[j] (List.getElem_mem hjA)
          obtain ⟨g, hg⟩ : ∃ g, g = A[j] := ⟨_, rfl⟩
          rw [← hg] at hany h0' h1' h2' hokg
          have HAny := hid hany
          have HOKg := hid hokg
          have HBJ := hid hbj
          obtain ⟨gk, gr, gp⟩ := g
          simp only [] at h0' h1' h2'
          obtain ⟨wg, hwg⟩ : ∃ wg, wg = wr.alloc (.cells #[.int .i64 gk, .int .i64 gr, .int .i64 gp] 25) := ⟨_, rfl⟩
          have hbg : Below wr.heap.size wr wg := by rw [hwg]; exact (Below.refl _ _).alloc (Nat.le_refl _) _
          have hgc : FC wg wr.heap.size gk gr gp := by rw [hwg]; exact FC.new _ _ _ _ _
          have hsg : wg.heap.size = wr.heap.size + 1 := by rw [hwg]; simp
          have hbwg := chain hbj hbg
          have hfc2 : FC wg wo.heap.size kind row pixel := HFC.out.below (by rw [HSF.out]; omega) hbwg
          have HWG := hid hwg
          clear hany hg hjA hokg hbj hwg
          cases T
          · obtain ⟨D, hD⟩ : ∃ D, D = decide (faultyM M ⟨kind, row, pixel⟩ = faultyM M ⟨gk, gr, gp⟩) := ⟨_, rfl⟩
            have HD := hid hD
            have hs2 : ∀ W, Below wg.heap.size wg W → (W.cell? ⟨wo.heap.size, 0, none⟩ = some (.int .i64 kind) ∧ W.cell? ⟨wo.heap.size, 1, none⟩ = some (.int .i64 row) ∧ W.cell? ⟨wo.heap.size, 2, none⟩ = some (.int .i64 pixel)) ∧ W.cell? ⟨wr.heap.size, 0, none⟩ = some (.int .i64 gk) ∧ W.cell? ⟨wr.heap.size, 1, none⟩ = some (.int .i64 gr) ∧ W.cell? ⟨wr.heap.size, 2, none⟩ = some (.int .i64 gp) := fun W hb =>
              ⟨hfc2.below (by have := hbwg.size; have := HSF.out; omega) hb, hgc.below (by omega) hb⟩
            have HS := hid hs2
            have HBG := hid hbwg
            have HF1 := hid (fun (W : World) (hb : Below wg.heap.size wg W) => HFa.out W (chain (chain HBW.out HBG.out) hb) _ HOk.out)
            have HG1 := hid (fun (W : World) (hb : Below wg.heap.size wg W) => HFa.out W (chain (chain HBW.out HBG.out) hb) _ HOKg.out)
            have HSM := hid (fun (W : World) (a4 a5 : Option Addr) (c4 c5 : Nat) (hA4 : RowsAt W a4 (faultyM M ⟨kind, row, pixel⟩)) (hA5 : RowsAt W a5 (faultyM M ⟨gk, gr, gp⟩)) => sameMask_b W a4 a5 n c4 c5 _ _ D (HMl.out _) (HMl.out _) (by unfold maxLen; omega) hA4 hA5 hD)
            have FIN := hid (fun (W : World) (hb : Below wg.heap.size wg W) => show (D = (A.take (j + 1)).any (fun g => decide (faultyM M g = faultyM M ⟨kind, row, pixel⟩))) ∧ Below wf.heap.size wf W from ⟨by
              rw [HAny.out, ← hT.out, hD, Bool.false_or]
              congr 1
              rw [eq_iff_iff]
              exact eq_comm, chain HBG.out hb⟩)
            simp only [Flt.val] at HF1 HG1
            clear hD hs2 hbwg hfc2 hgc hbg
            go_wp2
            rw [← HWG.out]
            clear HWG
            refine plain_region (fun j W => (fun _ : Nat => true) j = true → ((W.cell? ⟨wo.heap.size, 0, none⟩ = some (.int .i64 kind) ∧ W.cell? ⟨wo.heap.size, 1, none⟩ = some (.int .i64 row) ∧ W.cell? ⟨wo.heap.size, 2, none⟩ = some (.int .i64 pixel)) ∧ W.cell? ⟨wr.heap.size, 0, none⟩ = some (.int .i64 gk) ∧ W.cell? ⟨wr.heap.size, 1, none⟩ = some (.int .i64 gr) ∧ W.cell? ⟨wr.heap.size, 2, none⟩ = some (.int .i64 gp))) (by kernel_rfl) ?_
            have hbd : Below wg.heap.size wg wg.drew := (Below.refl _ _).drew
            generalize wg.drew = wd at hbd ⊢
            refine AnyT.takeW (i := 0) (v := .bool false) rfl (by kernel_rfl) (by kernel_rfl) (by kernel_rfl) (fun _ _ _ h => h) (by kernel_rfl) (by rfl) (by intro w' hw'; go_simp) (HS.out _ hbd) ?_
            refine AnyT.takeW (i := 1) (v := .bool false) rfl (by kernel_rfl) (by kernel_rfl) (by kernel_rfl) (fun _ _ _ h => h) (by kernel_rfl) (by rfl) (by intro w' hw'; go_simp) (HS.out _ hbd) ?_
            refine AnyT.takeW (i := 2) (v := .slice a n cap) rfl (by kernel_rfl) (by kernel_rfl) (by kernel_rfl) (fun _ _ _ h => h) (by kernel_rfl) (by rfl) (by intro w' hw'; go_simp) (HS.out _ hbd) ?_
            refine AnyT.takeW (i := 3) (v := .agg #[.int .i64 kind, .int .i64 row, .int .i64 pixel]) rfl (by kernel_rfl) (by kernel_rfl) (by kernel_rfl) (fun _ _ _ h => h) (by kernel_rfl) (by rfl) (by rintro w' ⟨⟨q0, q1, q2⟩, q3, q4, q5⟩; go_simp) (HS.out _ hbd) ?_
            refine AnyT.takeW (i := 5) (v := .slice a n cap) rfl (by kernel_rfl) (by kernel_rfl) (by kernel_rfl) (fun _ _ _ h => h) (by kernel_rfl) (by rfl) (by intro w' hw'; go_simp) (HS.out _ hbd) ?_
            refine AnyT.takeW (i := 6) (v := .agg #[.int .i64 gk, .int .i64 gr, .int .i64 gp]) rfl (by kernel_rfl) (by kernel_rfl) (by kernel_rfl) (fun _ _ _ h => h) (by kernel_rfl) (by rfl) (by rintro w' ⟨⟨q0, q1, q2⟩, q3, q4, q5⟩; go_simp) (HS.out _ hbd) ?_
            refine AnyT.next (i := 4) (by kernel_rfl) rfl (wpOp_of_list rfl ?_)
            go_wp2_with (go_at_call 81; refine (HF1.out _ hbd).mono ?_; rintro e w4 ⟨v4, b4, rfl, hb4, hR4, hbl4⟩; refine Stop.of ?_)
            refine Stop.go ?_
            obtain ⟨a4, c4, rfl, _, hA4, _⟩ := hR4.reads
            have hw4 := chain hbd hbl4
            rw [HMl.out _]
            go_wp2
            refine ⟨fun _ => HS.out _ hw4, ?_⟩
            refine AnyT.next (i := 7) (by kernel_rfl) rfl (wpOp_of_list rfl ?_)
            go_wp2_with (go_at_call 81; refine (HG1.out _ hw4).mono ?_; rintro e w5 ⟨v5, b5, rfl, hb5, hR5, hbl5⟩; refine Stop.of ?_)
            refine Stop.go ?_
            obtain ⟨a5, c5, rfl, _, hA5, _⟩ := hR5.reads
            have hw5 := chain hw4 hbl5
            have h4 := hA4.below hbl5
            have h5 := hA5
            rw [HMl.out _]
            go_wp2
            refine ⟨fun _ => HS.out _ hw5, ?_⟩
            refine AnyT.next (i := 8) (by kernel_rfl) rfl (wpOp_of_list rfl ?_)
            go_wp2_with (go_at_call 104; refine (HSM.out w5 a4 a5 c4 c5 h4 h5).mono ?_; rintro e w6 ⟨rfl, hbl6⟩; refine Stop.of ?_)
            refine Stop.go ?_
            have hw6 := chain hw5 hbl6
            go_wp2
            refine ⟨fun _ => HS.out _ hw6, ?_⟩
            refine AnyT.next (i := 9) (by kernel_rfl) rfl (wpOp_of_list rfl ?_)
            go_wp2
            refine ⟨fun _ => HS.out _ hw6, ?_⟩
            refine AnyT.next (i := 10) (by kernel_rfl) rfl (wpOp_of_list rfl ?_)
            go_wp2
            refine ⟨fun _ => HS.out _ hw6, ?_⟩
            refine AnyT.done (by kernel_rfl) ?_ _
            go_wp2
            exact ⟨⟨j + 1, by omega, by go_num, ⟨_, rfl, hid (FIN.out _ hw6).1⟩, (FIN.out _ hw6).2⟩, by simp [intOf]; omega⟩
          · have FIN := hid (show (true = (A.take (j + 1)).any (fun g => decide (faultyM M g = faultyM M ⟨kind, row, pixel⟩))) ∧ Below wf.heap.size wf wg from ⟨by rw [HAny.out, ← hT.out, Bool.true_or], hbwg⟩)
            go_wp2
            rw [← HWG.out]
            go_quiet (fail)
            go_wp2
            exact ⟨⟨j + 1, by omega, by go_num, ⟨_, rfl, hid FIN.out.1⟩, below_drewN FIN.out.2 _⟩, by simp [intOf]; omega⟩
        · obtain rfl : j = q := by omega
          have hT2 : T = A.any (fun g => decide (faultyM M g = faultyM M ⟨kind, row, pixel⟩)) := by rw [hT.out, List.take_of_length_le (by rw [← HQ.out]; exact Nat.le_refl _)]
          have hto := HTo.out
          rw [← hT2] at hto
          obtain ⟨q0, q1, q2⟩ := HFC.out.below (by rw [HSF.out]; omega) hbj
          have HFO := hid (HFF.out.below hbj)
          have HTO2 := hid hto
          have HBJ := hid hbj
          clear hto hT2 hbj
          cases T
          · have HOw := hid (show wr.ownsRow w1.heap.size 25 3 (.slice oa j oc) j (fltVals A) by have := HFO.out; unfold FltsO at this; rw [← HQ.out] at this; exact this)
            have M1 := hid (show j + 1 ≤ maxLen by unfold maxLen; omega)
            have M2 := hid (show (j + 1) * 24 ≤ 140737488355328 by omega)
            have M3 := hid (show w1.heap.size ≤ (wr.alloc (.cells (fltCells ⟨kind, row, pixel⟩).toArray 25)).heap.size by have := HBK.out.size; have := HBJ.out.size; simp; omega)
            go_wp2_with (at_builtin; refine wpList_app _ rfl (.tmp 35) (.tmp 37) 36 rfl w1.heap.size 25 (.agg #[.int .i64 0, .int .i64 0, .int .i64 0]) 3 24 Tryz.underlying36 info_fault rfl (by decide) (.slice oa j oc) j _ rfl (HOw.out.alloc _) (some ⟨wr.heap.size, 0, none⟩) 1 1 (fltCells ⟨kind, row, pixel⟩) rfl rfl no_none (flt_newsA wr ⟨kind, row, pixel⟩ _) (flt_one _) M1.out M2.out M3.out ?_; refine Stop.of ?_)
            refine Stop.go ?_
            intro a3 c3 w3 own3 g3
            have hb3 : Below w1.heap.size w1 w3 := ((chain HBK.out HBJ.out).alloc (by have := HBK.out.size; have := HBJ.out.size; omega) _).grown g3 M3.out (fun q hq => (HOw.out.lt q hq).1)
            go_wp2
            refine ⟨⟨k + 1, by omega, by go_num, ?_, hb3⟩, by simp [intOf]; omega⟩
            rw [HTO2.out, if_neg (by simp)]
            exact FltsO.snoc HQ.out.symm own3
          · go_wp2
            refine ⟨⟨k + 1, by omega, by go_num, ?_, chain HBK.out HBJ.out⟩, by simp [intOf]; omega⟩
            rw [HTO2.out, if_pos rfl]
            exact HFO.out
    · obtain rfl : k = L := by omega
      rw [List.take_of_length_le (by rw [← HL.out]; exact Nat.le_refl _)] at hF
      go_wp2
      go_ret
      exact ⟨_, w1.heap.size, rfl, HB1.out.size, hF, chain HB1.out hbk⟩
end Go.Proofs.YthaampmdponhbaaGreatDoor

namespace Go.Proofs.YthaampmdponhbaaGreatDoor
open Go.RowKit
set_option linter.unusedVariables false

theorem mask_small {M : Mask} {f : Flt} (hM : okM M = true) (hf : okF M f = true) : ∀ r ∈ faultyM M f, r.length ≤ maxLen := fun r hr => by
  have := (faultyM_cols hM hf r hr).1; have := (okM_len hM).2.2.2.1; unfold maxLen; omega

theorem faulty_v (w : World) (a : Option Addr) (n cap : Nat) (M : Mask) (hn : M.length = n) (H : RowsAt w a M) (hM : okM M = true) (f : Flt) (hf : okF M f = true) :
    Calls Tryz.prog 80 #[.slice a n cap, f.val] w fun e w' => ∃ va vc, e = .returned (.slice va n vc) ∧ RowsAt w' va (faultyM M f) ∧ Below w.heap.size w w' :=
  (faulty_c w a n cap M hn H hM f hf).mono fun e w' ⟨v, base, he, _, hown, hb⟩ => by
    obtain ⟨va, vc, hv, hr⟩ := hown.rows (mask_small hM hf)
    exact ⟨va, vc, by rw [he, hv, faultyM_row, hn], hr, hb⟩
def oneE (M : Mask) (f g : Flt) : Int := if validF M f = true ∧ validF M g = true then 0 else 1
def oneB (M : Mask) (f g : Flt) : Bool := decide (oneE M f g = 0) && decide (faultyM M f = faultyM M g)

theorem validF_ok {M : Mask} {f : Flt} (h : validF M f = true) : okM M = true ∧ okF M f = true := by
  unfold validF at h; simpa using h

end Go.Proofs.YthaampmdponhbaaGreatDoor

namespace Go.Proofs.YthaampmdponhbaaGreatDoor
open Go.RowKit
set_option linter.unusedVariables false

theorem bytes_beq (s t : ByteArray) : (s == t) = decide (s = t) := by
  obtain ⟨a⟩ := s
  obtain ⟨b⟩ := t
  show (a == b) = _
  rw [Bool.eq_iff_iff]; simp

theorem fltBox2 (w : World) (f g : Flt) : ∃ wg, wg = (w.alloc (.cells #[.int .i64 f.kind, .int .i64 f.row, .int .i64 f.pixel] 25)).alloc (.cells #[.int .i64 g.kind, .int .i64 g.row, .int .i64 g.pixel] 25) ∧ Below w.heap.size w wg ∧
    (∀ W, Below wg.heap.size wg W → (W.cell? ⟨w.heap.size, 0, none⟩ = some (.int .i64 f.kind) ∧ W.cell? ⟨w.heap.size, 1, none⟩ = some (.int .i64 f.row) ∧ W.cell? ⟨w.heap.size, 2, none⟩ = some (.int .i64 f.pixel)) ∧ W.cell? ⟨w.heap.size + 1, 0, none⟩ = some (.int .i64 g.kind) ∧ W.cell? ⟨w.heap.size + 1, 1, none⟩ = some (.int .i64 g.row) ∧ W.cell? ⟨w.heap.size + 1, 2, none⟩ = some (.int .i64 g.pixel)) := by
  obtain ⟨wf, hwf, hb0, hc0⟩ := fltBox w f
  obtain ⟨wg, hwg, hb1, hc1⟩ := fltBox wf g
  have hs : wf.heap.size = w.heap.size + 1 := by rw [hwf]; simp
  rw [hs] at hc1
  refine ⟨wg, by rw [hwg, hwf], chain hb0 hb1, fun W hb => ⟨(hc0 W (chain hb1 hb)).2, (hc1 W hb).2⟩⟩

set_option maxHeartbeats 1000000 in
theorem fone_c (w : World) (a : Option Addr) (n cap : Nat) (M : Mask) (hn : M.length = n) (H : RowsAt w a M) (hM : okM M = true) (f g : Flt) (hf : okF M f = true) (hg : okF M g = true) (D : Bool) (hD : D = decide (faultyM M f = faultyM M g)) :
    Calls Tryz.prog 49 #[.slice a n cap, f.val, g.val] w fun e w' => e = .returned (.bool D) ∧ Below w.heap.size w w' := by
  obtain ⟨wg, hwg, hb0, hcells⟩ := fltBox2 w f g
  have hm : n ≤ maxLen := by have := (okM_len hM).2.1; unfold maxLen; omega
  have HF := hid (fun (W : World) (hb : Below wg.heap.size wg W) => faulty_v W a n cap M hn (H.below (chain hb0 hb)) hM f hf)
  have HG := hid (fun (W : World) (hb : Below wg.heap.size wg W) => faulty_v W a n cap M hn (H.below (chain hb0 hb)) hM g hg)
  have HFm := hid (fun (h : Flt) (hh : okF M h = true) (W : World) (va : Option Addr) (vc : Nat) (hv : RowsAt W va (faultyM M h)) => maskFormat_c W va n vc (faultyM M h) (by rw [faultyM_row, hn]) hm hv)
  have HF1 := hid (HFm.out f hf)
  have HG1 := hid (HFm.out g hg)
  obtain ⟨s, hs⟩ : ∃ s : ByteArray, s = ⟨(textM (faultyM M f)).toArray⟩ := ⟨_, rfl⟩
  obtain ⟨t, ht⟩ : ∃ t : ByteArray, t = ⟨(textM (faultyM M g)).toArray⟩ := ⟨_, rfl⟩
  rw [← hs] at HF1
  rw [← ht] at HG1
  have hst : (s.toList == t.toList) = D := by
    rw [← beq_toListBytes, hD, bytes_beq, Bool.eq_iff_iff]
    simp only [decide_eq_true_eq]
    constructor
    · intro e
      rw [hs, ht] at e
      have e2 : textM (faultyM M f) = textM (faultyM M g) := by simpa using e
      exact textM_inj (okM_faulty hM hf).1 (okM_faulty hM hg).1 e2
    · intro e; rw [hs, ht, e]
  have HC := hid hcells
  have HB0 := hid hb0
  have HWG := hid hwg
  clear hn H hM hf hg hD HFm hs ht hcells hb0 hwg hm
  obtain ⟨kind, row, pixel⟩ := f
  obtain ⟨gk, gr, gp⟩ := g
  simp only [Flt.val] at HF HG HC HWG ⊢
  have hw := HWG.out
  go_enter Tryz.func49, Tryz.ntmps49
  go_wp2
  rw [← hw]
  clear hw
  refine plain_region (fun j W => (fun _ : Nat => true) j = true → ((W.cell? ⟨w.heap.size, 0, none⟩ = some (.int .i64 kind) ∧ W.cell? ⟨w.heap.size, 1, none⟩ = some (.int .i64 row) ∧ W.cell? ⟨w.heap.size, 2, none⟩ = some (.int .i64 pixel)) ∧ W.cell? ⟨w.heap.size + 1, 0, none⟩ = some (.int .i64 gk) ∧ W.cell? ⟨w.heap.size + 1, 1, none⟩ = some (.int .i64 gr) ∧ W.cell? ⟨w.heap.size + 1, 2, none⟩ = some (.int .i64 gp))) (by kernel_rfl) ?_
  have hbd : Below wg.heap.size wg wg.drew := (Below.refl _ _).drew
  generalize wg.drew = wd at hbd ⊢
  refine AnyT.takeW (i := 0) (v := .slice a n cap) rfl (by kernel_rfl) (by kernel_rfl) (by kernel_rfl) (by first | exact (fun _ _ _ h => h) | exact (fun _ _ _ h => absurd h.1 (by simp))) (by kernel_rfl) (by rfl) (by rintro w' hw'; go_simp) (HC.out _ hbd) ?_
  refine AnyT.takeW (i := 1) (v := .agg #[.int .i64 kind, .int .i64 row, .int .i64 pixel]) rfl (by kernel_rfl) (by kernel_rfl) (by kernel_rfl) (by first | exact (fun _ _ _ h => h) | exact (fun _ _ _ h => absurd h.1 (by simp))) (by kernel_rfl) (by rfl) (by rintro w' ⟨⟨q0, q1, q2⟩, q3, q4, q5⟩; go_simp) (HC.out _ hbd) ?_
  refine AnyT.takeW (i := 4) (v := .slice a n cap) rfl (by kernel_rfl) (by kernel_rfl) (by kernel_rfl) (by first | exact (fun _ _ _ h => h) | exact (fun _ _ _ h => absurd h.1 (by simp))) (by kernel_rfl) (by rfl) (by rintro w' hw'; go_simp) (HC.out _ hbd) ?_
  refine AnyT.takeW (i := 5) (v := .agg #[.int .i64 gk, .int .i64 gr, .int .i64 gp]) rfl (by kernel_rfl) (by kernel_rfl) (by kernel_rfl) (by first | exact (fun _ _ _ h => h) | exact (fun _ _ _ h => absurd h.1 (by simp))) (by kernel_rfl) (by rfl) (by rintro w' ⟨⟨q0, q1, q2⟩, q3, q4, q5⟩; go_simp) (HC.out _ hbd) ?_
  refine AnyT.next (i := 2) (by kernel_rfl) rfl (wpOp_of_list rfl ?_)
  go_wp2_with (go_at_call 80; refine (HF.out _ hbd).mono ?_; rintro e w4 ⟨a4, c4, rfl, hA4, hbl4⟩; refine Stop.of ?_)
  refine Stop.go ?_
  have hw4 := chain hbd hbl4
  go_wp2
  refine ⟨fun _ => HC.out _ hw4, ?_⟩
  refine AnyT.next (i := 3) (by kernel_rfl) rfl (wpOp_of_list rfl ?_)
  go_wp2_with (go_at_call 82; refine (HF1.out w4 a4 c4 hA4).mono ?_; rintro e w5 ⟨rfl, hbl5⟩; refine Stop.of ?_)
  refine Stop.go ?_
  have hw5 := chain hw4 hbl5
  go_wp2
  refine ⟨fun _ => HC.out _ hw5, ?_⟩
  refine AnyT.next (i := 6) (by kernel_rfl) rfl (wpOp_of_list rfl ?_)
  go_wp2_with (go_at_call 80; refine (HG.out _ hw5).mono ?_; rintro e w6 ⟨a6, c6, rfl, hA6, hbl6⟩; refine Stop.of ?_)
  refine Stop.go ?_
  have hw6 := chain hw5 hbl6
  go_wp2
  refine ⟨fun _ => HC.out _ hw6, ?_⟩
  refine AnyT.next (i := 7) (by kernel_rfl) rfl (wpOp_of_list rfl ?_)
  go_wp2_with (go_at_call 82; refine (HG1.out w6 a6 c6 hA6).mono ?_; rintro e w7 ⟨rfl, hbl7⟩; refine Stop.of ?_)
  refine Stop.go ?_
  have hw7 := chain hw6 hbl7
  go_wp2
  refine ⟨fun _ => HC.out _ hw7, ?_⟩
  refine AnyT.next (i := 8) (by kernel_rfl) rfl (wpOp_of_list rfl ?_)
  go_wp2
  refine ⟨fun _ => HC.out _ hw7, ?_⟩
  refine AnyT.next (i := 9) (by kernel_rfl) rfl (wpOp_of_list rfl ?_)
  go_wp2
  refine ⟨fun _ => HC.out _ hw7, ?_⟩
  refine AnyT.done (by kernel_rfl) ?_ _
  go_wp2
  go_ret
  exact ⟨rfl, chain HB0.out hw7⟩

set_option maxHeartbeats 1000000 in
theorem One_c (w : World) (a : Option Addr) (n cap : Nat) (M : Mask) (hn : M.length = n) (hm : n ≤ maxLen) (H : RowsAt w a M) (f g : Flt) :
    Calls Tryz.prog 25 #[.slice a n cap, f.val, g.val] w fun e w' => e = .returned (.tuple #[.bool (oneB M f g), .int .i64 (oneE M f g)]) ∧ Below w.heap.size w w' := by
  obtain ⟨wg, hwg, hb0, hcells⟩ := fltBox2 w f g
  have HF := hid (fun (W : World) (hb : Below wg.heap.size wg W) => faultValid_c W a n cap M hn hm (H.below (chain hb0 hb)) f)
  have HG := hid (fun (W : World) (hb : Below wg.heap.size wg W) => faultValid_c W a n cap M hn hm (H.below (chain hb0 hb)) g)
  have HO := hid (fun (h1 : validF M f = true) (h2 : validF M g = true) (W : World) (hb : Below wg.heap.size wg W) => fone_c W a n cap M hn (H.below (chain hb0 hb)) (validF_ok h1).1 f g (validF_ok h1).2 (validF_ok h2).2 _ rfl)
  have HC := hid hcells
  have HB0 := hid hb0
  have HWG := hid hwg
  have hcs := hcells wg (Below.refl _ _)
  clear hn H hcells hb0 hwg hm
  obtain ⟨⟨f0, f1, f2⟩, f3, f4, f5⟩ := hcs
  cases h1 : validF M f
  · have HE := hid (show oneE M f g = 1 ∧ oneB M f g = false by unfold oneB oneE; rw [h1]; simp)
    rw [h1] at HF
    clear h1 HO
    obtain ⟨kind, row, pixel⟩ := f
    obtain ⟨gk, gr, gp⟩ := g
    simp only [Flt.val] at HF HG HC HWG f0 f1 f2 f3 f4 f5 ⊢
    have hw := HWG.out
    clear HWG
    subst hw
    go_enter Tryz.func25, Tryz.ntmps25
    go_wp2_with (go_at_call 31; refine (HF.out _ (Below.refl _ _)).mono ?_; rintro e w1 ⟨rfl, hb1⟩)
    go_ret2
    exact ⟨by rw [HE.out.1, HE.out.2]; rfl, chain HB0.out hb1⟩
  · cases h2 : validF M g
    · have HE := hid (show oneE M f g = 1 ∧ oneB M f g = false by unfold oneB oneE; rw [h1, h2]; simp)
      rw [h1] at HF
      rw [h2] at HG
      clear h1 h2 HO
      obtain ⟨kind, row, pixel⟩ := f
      obtain ⟨gk, gr, gp⟩ := g
      simp only [Flt.val] at HF HG HC HWG f0 f1 f2 f3 f4 f5 ⊢
      have hw := HWG.out
      clear HWG
      subst hw
      go_enter Tryz.func25, Tryz.ntmps25
      go_wp2_with (go_at_call 31; refine (HF.out _ (Below.refl _ _)).mono ?_; rintro e w1 ⟨rfl, hb1⟩; refine Stop.of ?_)
      refine Stop.go ?_
      obtain ⟨⟨f0, f1, f2⟩, f3, f4, f5⟩ := HC.out w1 hb1
      go_wp2_with (go_at_call 31; refine (HG.out _ hb1).mono ?_; rintro e w2 ⟨rfl, hb2⟩)
      go_ret2
      exact ⟨by rw [HE.out.1, HE.out.2]; rfl, chain HB0.out (chain hb1 hb2)⟩
    · have HE := hid (show oneE M f g = 0 ∧ oneB M f g = decide (faultyM M f = faultyM M g) by unfold oneB oneE; rw [h1, h2]; simp)
      rw [h1] at HF
      rw [h2] at HG
      have HO1 := hid (HO.out h1 h2)
      obtain ⟨D, hD⟩ : ∃ D, D = decide (faultyM M f = faultyM M g) := ⟨_, rfl⟩
      rw [← hD] at HO1 HE
      clear h1 h2 HO hD
      obtain ⟨kind, row, pixel⟩ := f
      obtain ⟨gk, gr, gp⟩ := g
      simp only [Flt.val] at HF HG HC HWG HO1 f0 f1 f2 f3 f4 f5 ⊢
      have hw := HWG.out
      clear HWG
      subst hw
      go_enter Tryz.func25, Tryz.ntmps25
      go_wp2_with (go_at_call 31; refine (HF.out _ (Below.refl _ _)).mono ?_; rintro e w1 ⟨rfl, hb1⟩; refine Stop.of ?_)
      refine Stop.go ?_
      obtain ⟨⟨f0, f1, f2⟩, f3, f4, f5⟩ := HC.out w1 hb1
      go_wp2_with (go_at_call 31; refine (HG.out _ hb1).mono ?_; rintro e w2 ⟨rfl, hb2⟩; refine Stop.of ?_)
      refine Stop.go ?_
      have hb12 := chain hb1 hb2
      obtain ⟨⟨f0, f1, f2⟩, f3, f4, f5⟩ := HC.out w2 hb12
      go_wp2_with (go_at_call 49; refine (HO1.out _ hb12).mono ?_; rintro e w3 ⟨rfl, hb3⟩)
      go_ret2
      exact ⟨by rw [HE.out.1, HE.out.2]; rfl, chain HB0.out (chain hb12 hb3)⟩

end Go.Proofs.YthaampmdponhbaaGreatDoor

namespace Go.Proofs.YthaampmdponhbaaGreatDoor
open Go.RowKit
set_option linter.unusedVariables false

structure Tst where
  shown : List Int
  read : List Int
deriving DecidableEq

def TstV (w : World) (v : Value) (t : Tst) : Prop :=
  ∃ sa sn sc ra rn rc, v = .agg #[.slice sa sn sc, .slice ra rn rc] ∧ t.shown.length = sn ∧ sn ≤ maxLen ∧ IntsAt w sa t.shown ∧ t.read.length = rn ∧ rn ≤ maxLen ∧ IntsAt w ra t.read
theorem TstV.below {w w' : World} {v : Value} {t : Tst} (h : TstV w v t) (hb : Below w.heap.size w w') : TstV w' v t := by
  obtain ⟨sa, sn, sc, ra, rn, rc, e, h1, h2, h3, h4, h5, h6⟩ := h
  exact ⟨sa, sn, sc, ra, rn, rc, e, h1, h2, h3.below hb, h4, h5, h6.below hb⟩

def TestsAt (w : World) (a : Option Addr) (l : List Tst) : Prop :=
  ∀ j (hj : j < l.length), ∃ b off sa sn sc ra rn rc, a = some ⟨b, off, none⟩ ∧ b < w.heap.size ∧ w.cell? ⟨b, off + j * 2, none⟩ = some (.slice sa sn sc) ∧ w.cell? ⟨b, off + j * 2 + 1, none⟩ = some (.slice ra rn rc) ∧
    l[j].shown.length = sn ∧ sn ≤ maxLen ∧ IntsAt w sa l[j].shown ∧ l[j].read.length = rn ∧ rn ≤ maxLen ∧ IntsAt w ra l[j].read
theorem TestsAt.below {w w' : World} {a : Option Addr} {l : List Tst} (h : TestsAt w a l) (hb : Below w.heap.size w w') : TestsAt w' a l := by
  intro j hj
  obtain ⟨b, off, sa, sn, sc, ra, rn, rc, e, hlt, c0, c1, h1, h2, h3, h4, h5, h6⟩ := h j hj
  exact ⟨b, off, sa, sn, sc, ra, rn, rc, e, Nat.lt_of_lt_of_le hlt hb.size, (hb.cell (p := ⟨b, _, none⟩) hlt).trans c0, (hb.cell (p := ⟨b, _, none⟩) hlt).trans c1, h1, h2, h3.below hb, h4, h5, h6.below hb⟩

def PredT (P : Program) (g : Nat) (lb : Array Value) (w : World) (ok : Tst → Prop) (p : Tst → Bool) : Prop :=
  ∀ (c : Tst) (v : Value) (W : World), ok c → Below w.heap.size w W → TstV W v c → Calls P g (#[v] ++ lb) W fun e W' => e = .returned (.bool (p c)) ∧ Below W.heap.size W W'

theorem indexT (w : World) (a : Option Addr) (n cap : Nat) (l : List Tst) (hn : l.length = n) (hm : n ≤ maxLen) (H : TestsAt w a l) (g : Nat) (lb : Array Value) (ok : Tst → Prop) (p : Tst → Bool)
    (eg : ∀ args w, (callFunc g args).run Tryz.prog w = .ok (.enter g args) w) (hp : PredT Tryz.prog g lb w ok p) (hok : ∀ c ∈ l, ok c) :
    Calls Tryz.prog 91 #[.slice a n cap, .func (.func g) #[] lb] w fun e w' => e = .returned (.int .i64 (idxP p l 0)) ∧ Below w.heap.size w w' := by
  have HN := hid hn
  have HH := hid H
  have HP := hid hp
  have HO := hid hok
  clear hn H hp hok
  unfold maxLen at hm
  go_enter Tryz.func91, Tryz.ntmps91
  go_wp2
  go_loopw [8] (fun i wr => ∃ k : Nat, k ≤ n ∧ i = .int .i64 k ∧ Below w.heap.size w wr ∧ ∀ i y, i < k → l[i]? = some y → p y = false) (fun i _ => n - (intOf i).toNat)
  case atStart => exact ⟨0, Nat.zero_le _, rfl, Below.refl _ _, fun i y h => by omega⟩
  case round =>
    obtain ⟨k, hk, rfl, hb, hno⟩ := hrel
    have HNO := hid hno
    clear hno
    by_cases hlt : k < n
    · have hkl : k < l.length := by rw [HN.out]; exact hlt
      obtain ⟨b, off, sa, sn, sc, ra, rn, rc, rfl, hbs, h0, h1, hsn, hsm, hsi, hrn, hrm, hri⟩ := (HH.out.below hb) k hkl
      have HV := hid (show TstV wr (.agg #[.slice sa sn sc, .slice ra rn rc]) l[k] from ⟨sa, sn, sc, ra, rn, rc, rfl, hsn, hsm, hsi, hrn, hrm, hri⟩)
      clear hrn hri hsn hsi
      have HK := hid (List.getElem?_eq_getElem hkl)
      cases hpx : p l[k]
      · go_wp2_with (refine (HP.out _ _ _ (HO.out _ (List.getElem_mem hkl)) hb HV.out).mono ?_; rintro e w1 ⟨rfl, hb1⟩)
        refine ⟨⟨k + 1, by omega, by go_num, chain hb hb1, ?_⟩, by simp [intOf]; omega⟩
        intro i y hi hy
        by_cases e : i = k
        · subst e; rw [HK.out] at hy; cases hy; exact hpx
        · exact HNO.out i y (by omega) hy
      · go_wp2_with (refine (HP.out _ _ _ (HO.out _ (List.getElem_mem hkl)) hb HV.out).mono ?_; rintro e w1 ⟨rfl, hb1⟩)
        go_ret
        refine ⟨ret_int ?_, chain hb hb1⟩
        rw [idxP_at p l 0 k _ HK.out hpx HNO.out]; simp
    · go_wp2
      go_ret
      refine ⟨ret_int ?_, hb⟩
      rw [idxP_neg]
      intro x hx
      obtain ⟨i, hi, e⟩ := List.getElem_of_mem hx
      exact HNO.out i x (by have := HN.out; omega) (by rw [List.getElem?_eq_getElem hi, e])

theorem containsT (w : World) (a : Option Addr) (n cap : Nat) (l : List Tst) (hn : l.length = n) (hm : n ≤ maxLen) (H : TestsAt w a l) (g : Nat) (lb : Array Value) (ok : Tst → Prop) (p : Tst → Bool)
    (eg : ∀ args w, (callFunc g args).run Tryz.prog w = .ok (.enter g args) w) (hp : PredT Tryz.prog g lb w ok p) (hok : ∀ c ∈ l, ok c) :
    Calls Tryz.prog 57 #[.slice a n cap, .func (.func g) #[] lb] w fun e w' => e = .returned (.bool (l.any p)) ∧ Below w.heap.size w w' := by
  have HC := hid (indexT w a n cap l hn hm H g lb ok p eg hp hok)
  have HG := idxP_ge p l 0
  have HG' := hid HG
  clear hn H hp HG hok
  go_enter Tryz.func57, Tryz.ntmps57
  go_wp2_with (refine HC.out.mono ?_; rintro e w1 ⟨rfl, hb1⟩)
  go_ret
  refine ⟨ret_bool ?_, hb1⟩
  rw [Bool.eq_iff_iff, decide_eq_true_iff, HG'.out]

def okTest (M : Mask) (t : Tst) : Bool := okShown M t.shown && decide (t.read.length = M.length)
def okTests (M : Mask) (l : List Tst) : Bool := okM M && decide (l.length ≤ 12) && l.all (okTest M)

theorem tstBox (w : World) (sa ra : Option Addr) (sn sc rn rc : Nat) : ∃ wt, wt = w.alloc (.cells #[.slice sa sn sc, .slice ra rn rc] 29) ∧ Below w.heap.size w wt ∧ (∀ W, Below wt.heap.size wt W → w.heap.size < W.heap.size ∧ W.cell? ⟨w.heap.size, 0, none⟩ = some (.slice sa sn sc) ∧ W.cell? ⟨w.heap.size, 1, none⟩ = some (.slice ra rn rc)) := by
  refine ⟨_, rfl, (Below.refl _ _).alloc (Nat.le_refl _) _, fun W hb => ?_⟩
  have hs := hb.size
  simp at hs
  refine ⟨by omega, ?_, ?_⟩ <;> (rw [hb.cell (p := ⟨w.heap.size, _, none⟩) (by simp), World.cell?_alloc_at _ _ _ _ rfl]; rfl)

theorem ftest_c (w : World) (a : Option Addr) (n cap : Nat) (M : Mask) (hn : M.length = n) (hm : n ≤ maxLen) (H : RowsAt w a M) (v : Value) (t : Tst) (hv : TstV w v t) :
    Calls Tryz.prog 66 #[.slice a n cap, v] w fun e w' => e = .returned (.bool (okTest M t)) ∧ Below w.heap.size w w' := by
  obtain ⟨sa, sn, sc, ra, rn, rc, rfl, hsn, hsm, hsi, hrn, hrm, hri⟩ := hv
  obtain ⟨wt, hwt, hb0, hcells⟩ := tstBox w sa ra sn sc rn rc
  have HS := hid (maskShown_c wt a n cap M hn hm (H.below hb0) sa sn sc t.shown hsn hsm (hsi.below hb0))
  have HE := hid (show okTest M t = (okShown M t.shown && decide (rn = n)) by unfold okTest; rw [hrn, hn])
  have HB0 := hid hb0
  have HC := hid hcells
  obtain ⟨_, f0, f1⟩ := hcells wt (Below.refl _ _)
  have HW := hid hwt
  clear hn H hsn hsi hrn hri hb0 hcells hwt
  cases h : okShown M t.shown
  · rw [h] at HS HE
    clear h
    have hw := HW.out
    clear HW
    subst hw
    go_enter Tryz.func66, Tryz.ntmps66
    go_wp2_with (go_at_call 77; refine HS.out.mono ?_; rintro e w1 ⟨rfl, hb1⟩)
    go_ret
    exact ⟨ret_bool (by rw [HE.out]; rfl), chain HB0.out hb1⟩
  · rw [h] at HS HE
    clear h
    have hw := HW.out
    clear HW
    subst hw
    unfold maxLen at hm hrm
    by_cases e : rn = n
    · have HE2 := hid (show okTest M t = true by rw [HE.out, e]; simp)
      subst e
      go_enter Tryz.func66, Tryz.ntmps66
      go_wp2_with (go_at_call 77; refine HS.out.mono ?_; rintro e w1 ⟨rfl, hb1⟩; obtain ⟨_, f0, f1⟩ := HC.out w1 hb1)
      go_ret
      exact ⟨ret_bool (by rw [HE2.out]), chain HB0.out hb1⟩
    · have HE2 := hid (show okTest M t = false by rw [HE.out, decide_eq_false e]; rfl)
      have e2 : ((rn : Int) == (n : Int)) = false := by simp; omega
      clear e
      go_enter Tryz.func66, Tryz.ntmps66
      go_wp2_with (go_at_call 77; refine HS.out.mono ?_; rintro e w1 ⟨rfl, hb1⟩; obtain ⟨_, f0, f1⟩ := HC.out w1 hb1)
      go_ret
      exact ⟨ret_bool (by rw [HE2.out]), chain HB0.out hb1⟩

theorem validTests1 (w : World) (b : Nat) (a : Option Addr) (n cap : Nat) (M : Mask) (hn : M.length = n) (hm : n ≤ maxLen) (H : RowsAt w a M) (hb : b < w.heap.size) (hc : w.cell? ⟨b, 0, none⟩ = some (.slice a n cap)) :
    PredT Tryz.prog 65 #[.pointer (some ⟨b, 0, none⟩)] w (fun _ => True) (fun t => !okTest M t) := by
  intro t v W _ hbw hv
  have hc' : W.cell? ⟨b, 0, none⟩ = some (.slice a n cap) := (hbw.cell (p := ⟨b, 0, none⟩) hb).trans hc
  have hbW : b < W.heap.size := by have := hbw.size; omega
  have HT := hid (fun (X : World) (hx : Below W.heap.size W X) => ftest_c X a n cap M hn hm (H.below (chain hbw hx)) v t (hv.below hx))
  obtain ⟨sa, sn, sc, ra, rn, rc, rfl, hsn, hsm, hsi, hrn, hrm, hri⟩ := hv
  have hba := (Below.refl W.heap.size W).alloc (Nat.le_refl _) (.cells #[.slice sa sn sc, .slice ra rn rc] 29)
  have HT1 := hid (HT.out _ hba)
  have HBA := hid hba
  clear hn H hsn hsi hrn hri hc HT hba
  go_enter Tryz.func65, Tryz.ntmps65
  go_wp2_with (go_at_call 66; refine HT1.out.mono ?_; rintro e w1 ⟨rfl, hb1⟩)
  go_ret
  exact ⟨rfl, chain HBA.out hb1⟩

theorem faultValidTests_c (w : World) (a : Option Addr) (n cap : Nat) (M : Mask) (hn : M.length = n) (hm : n ≤ maxLen) (H : RowsAt w a M) (a2 : Option Addr) (n2 cap2 : Nat) (l : List Tst) (hn2 : l.length = n2) (hm2 : n2 ≤ maxLen) (H2 : TestsAt w a2 l) :
    Calls Tryz.prog 32 #[.slice a n cap, .slice a2 n2 cap2] w fun e w' => e = .returned (.bool (okTests M l)) ∧ Below w.heap.size w w' := by
  have hmf : ∀ (fn : Fn) (first cap : Array Value) (w : World), (Instr.makeFunc fn first cap).run Tryz.prog w = .ok (.func fn first cap) w := fun _ _ _ _ => rfl
  have hb0 : Below w.heap.size w (w.alloc (.cells #[.slice a n cap] 23)) := (Below.refl _ _).alloc (Nat.le_refl _) _
  have HV := hid (maskValid_c _ a n cap M hn hm (H.below hb0))
  have HT := hid (fun (W : World) (hb : Below (w.alloc (.cells #[.slice a n cap] 23)).heap.size (w.alloc (.cells #[.slice a n cap] 23)) W) =>
    containsT W a2 n2 cap2 l hn2 hm2 (H2.below (chain hb0 hb)) 65 #[.pointer (some ⟨w.heap.size, 0, none⟩)] (fun _ => True) (fun t => !okTest M t) (enters_of Tryz.func65 (by kernel_rfl) rfl)
      (validTests1 W w.heap.size a n cap M hn hm (H.below (chain hb0 hb)) (by have := hb.size; simp at this; omega) (by rw [hb.cell (p := ⟨w.heap.size, 0, none⟩) (by simp), World.cell?_alloc_at _ _ _ _ rfl]; rfl)) (fun _ _ => trivial))
  have HE := hid (show okTests M l = (okM M && decide (n2 ≤ 12) && !(l.any fun t => !okTest M t)) by
    unfold okTests; rw [hn2]; congr 1; rw [Bool.eq_iff_iff]; simp)
  have HB0 := hid hb0
  unfold maxLen at hm2
  clear hn H hn2 H2 hb0
  obtain ⟨A, hA⟩ : ∃ A, A = l.any (fun t => !okTest M t) := ⟨_, rfl⟩
  rw [← hA] at HE HT
  clear hA
  cases h : okM M
  · rw [h] at HV HE
    clear h
    go_enter Tryz.func32, Tryz.ntmps32
    go_wp2_with (go_at_call 62; refine HV.out.mono ?_; rintro e w1 ⟨rfl, hb1⟩)
    go_ret
    exact ⟨ret_bool (by rw [HE.out]; rfl), chain HB0.out hb1⟩
  · rw [h] at HV HE
    clear h
    by_cases h12 : n2 ≤ 12
    · have HE2 := hid (show okTests M l = !A by rw [HE.out]; simp [h12])
      go_enter Tryz.func32, Tryz.ntmps32
      go_wp2_with (first | (go_at_call 62; refine HV.out.mono ?_; rintro e w1 ⟨rfl, hb1⟩) | (refine (HT.out _ hb1).mono ?_; rintro e w2 ⟨rfl, hb2⟩))
      go_ret
      exact ⟨ret_bool (by rw [HE2.out]), chain HB0.out (chain hb1 hb2)⟩
    · have HE2 := hid (show okTests M l = false by rw [HE.out]; simp [h12])
      go_enter Tryz.func32, Tryz.ntmps32
      go_wp2_with (first | (go_at_call 62; refine HV.out.mono ?_; rintro e w1 ⟨rfl, hb1⟩))
      go_ret
      exact ⟨ret_bool (by rw [HE2.out]), chain HB0.out hb1⟩

set_option maxHeartbeats 1000000 in
theorem refValidTests_c (w : World) (a : Option Addr) (n cap : Nat) (M : Mask) (hn : M.length = n) (hm : n ≤ maxLen) (H : RowsAt w a M) (a2 : Option Addr) (n2 cap2 : Nat) (l : List Tst) (hn2 : l.length = n2) (hm2 : n2 ≤ maxLen) (H2 : TestsAt w a2 l) :
    Calls Tryz.prog 35 #[.slice a n cap, .slice a2 n2 cap2] w fun e w' => e = .returned (.bool (okTests M l)) ∧ Below w.heap.size w w' := by
  have HV := hid (fun (W : World) (hb : Below w.heap.size w W) => r2Valid_c W a n cap M hn hm (H.below hb))
  have HSh := hid (fun (W : World) (hb : Below w.heap.size w W) (xa : Option Addr) (xn xc : Nat) (x : List Int) (hx : x.length = xn) (hxm : xn ≤ maxLen) (hxi : IntsAt W xa x) => r2Shown_c W a n cap M hn hm (H.below hb) xa xn xc x hx hxm hxi)
  have HN := hid hn
  have HN2 := hid hn2
  have HH2 := hid H2
  have HE := hid (show okTests M l = (l.all (okTest M) && (okM M && decide (n2 ≤ 12))) by unfold okTests; rw [hn2, Bool.and_comm])
  unfold maxLen at hm hm2
  clear hn H hn2 H2
  go_enter Tryz.func35, Tryz.ntmps35
  go_wp2
  go_loopw [9] (fun i wr => ∃ k : Nat, k ≤ n2 ∧ i = .int .i64 k ∧ Below w.heap.size w wr ∧ Hid (∀ j (hj : j < l.length), j < k → okTest M l[j] = true)) (fun i _ => n2 - (intOf i).toNat)
  case atStart => exact ⟨0, Nat.zero_le _, rfl, Below.refl _ _, hid (fun j _ h => by omega)⟩
  case round =>
    obtain ⟨k, hk, rfl, hb, hno⟩ := hrel
    by_cases hlt : k < n2
    · have hkl : k < l.length := by rw [HN2.out]; exact hlt
      obtain ⟨b, off, sa, sn, sc, ra, rn, rc, rfl, hbs, h0, h1, hsn, hsm, hsi, hrn, hrm, hri⟩ := (HH2.out.below hb) k hkl
      obtain ⟨wt, hwt, hbt, hcells⟩ := tstBox wr sa ra sn sc rn rc
      have HS := hid (HSh.out wt (chain hb hbt) sa sn sc l[k].shown hsn hsm (hsi.below hbt))
      have hot : okTest M l[k] = (okShown M l[k].shown && decide (rn = n)) := by unfold okTest; rw [hrn, HN.out]
      obtain ⟨x, hx⟩ : ∃ x, x = l[k] := ⟨_, rfl⟩
      rw [← hx] at HS hot
      obtain ⟨_, f0, f1⟩ := hcells wt (Below.refl _ _)
      have hot2 : okTest M l[k] = okTest M x := by rw [hx]
      rw [← hot2] at hot
      have HOT := hid hot
      have HBT := hid (chain hb hbt)
      have HKL := hid hkl
      have HWT := hid hwt
      unfold maxLen at hrm
      clear hsn hsi hrn hri hcells hot hot2 hx hb hbt hwt
      cases h : okShown M x.shown
      · have HF := hid (show okTest M (l[k]'HKL.out) = false by rw [HOT.out, h]; rfl)
        rw [h] at HS
        clear h
        go_wp2_with fail
        rw [← HWT.out]
        go_wp2_with (go_at_call 71; refine HS.out.mono ?_; rintro e w1 ⟨rfl, rfl⟩)
        go_ret
        exact ⟨ret_bool (by rw [HE.out, all_stop HKL.out HF.out]; rfl), HBT.out⟩
      · rw [h] at HS
        by_cases e : rn = n
        · have HF := hid (show okTest M (l[k]'HKL.out) = true by rw [HOT.out, h, e]; simp)
          have e2 : ((rn : Int) != (n : Int)) = false := by simp [e]
          clear h e
          go_wp2_with fail
          rw [← HWT.out]
          go_wp2_with (go_at_call 71; refine HS.out.mono ?_; rintro e w1 ⟨rfl, rfl⟩)
          refine ⟨⟨k + 1, by omega, by go_num, HBT.out, hid (fun j hj hjk => ?_)⟩, by simp [intOf]; omega⟩
          rcases Nat.lt_or_ge j k with h | h
          · exact hno.out j hj h
          · obtain rfl : j = k := by omega
            exact HF.out
        · have HF := hid (show okTest M (l[k]'HKL.out) = false by rw [HOT.out, h, decide_eq_false e]; rfl)
          have e2 : ((rn : Int) != (n : Int)) = true := by simp; omega
          clear h e
          go_wp2_with fail
          rw [← HWT.out]
          go_wp2_with (go_at_call 71; refine HS.out.mono ?_; rintro e w1 ⟨rfl, rfl⟩)
          go_ret
          exact ⟨ret_bool (by rw [HE.out, all_stop HKL.out HF.out]; rfl), HBT.out⟩
    · obtain rfl : k = n2 := by omega
      have HV1 := hid (HV.out wr hb)
      have hall : l.all (okTest M) = true := all_done (fun j hj => hno.out j hj (by rw [← HN2.out]; exact hj))
      have HE2 := hid (show okTests M l = (okM M && decide (k ≤ 12)) by rw [HE.out, hall, Bool.true_and])
      have HB := hid hb
      clear hall hno
      cases h : okM M
      · rw [h] at HV1 HE2
        clear h
        go_wp2_with (go_at_call 69; refine HV1.out.mono ?_; rintro e w1 ⟨rfl, rfl⟩)
        go_ret
        exact ⟨ret_bool (by rw [HE2.out]; rfl), HB.out⟩
      · rw [h] at HV1 HE2
        clear h
        by_cases h12 : k ≤ 12
        · go_wp2_with (go_at_call 69; refine HV1.out.mono ?_; rintro e w1 ⟨rfl, rfl⟩)
          go_ret
          exact ⟨ret_bool (by rw [HE2.out]; simp; omega), HB.out⟩
        · go_wp2_with (go_at_call 69; refine HV1.out.mono ?_; rintro e w1 ⟨rfl, rfl⟩)
          go_ret
          exact ⟨ret_bool (by rw [HE2.out]; simp; omega), HB.out⟩

def fitT (l : List Tst) : Bool := l.all (fun t => decide (t.shown.length ≤ 20) && decide (t.read.length ≤ 20)) && decide (l.length ≤ 16)
theorem tests_c (w : World) (a2 : Option Addr) (n2 cap2 : Nat) (l : List Tst) (hn2 : l.length = n2) (hm2 : n2 ≤ maxLen) (H2 : TestsAt w a2 l) :
    Calls Tryz.prog 7 #[.slice a2 n2 cap2] w fun e w' => e = .returned (.bool (fitT l)) ∧ Below w.heap.size w w' := by
  have HN2 := hid hn2
  have HH2 := hid H2
  have HE := hid (show fitT l = (l.all (fun t => decide (t.shown.length ≤ 20) && decide (t.read.length ≤ 20)) && decide (n2 ≤ 16)) by unfold fitT; rw [hn2])
  unfold maxLen at hm2
  clear hn2 H2
  go_enter Tryz.func7, Tryz.ntmps7
  go_wp2
  go_loopw [7] (fun i wr => ∃ k : Nat, k ≤ n2 ∧ i = .int .i64 k ∧ Below w.heap.size w wr ∧ Hid (∀ j (hj : j < l.length), j < k → (decide (l[j].shown.length ≤ 20) && decide (l[j].read.length ≤ 20)) = true)) (fun i _ => n2 - (intOf i).toNat)
  case atStart => exact ⟨0, Nat.zero_le _, rfl, Below.refl _ _, hid (fun j _ h => by omega)⟩
  case round =>
    obtain ⟨k, hk, rfl, hb, hno⟩ := hrel
    by_cases hlt : k < n2
    · have hkl : k < l.length := by rw [HN2.out]; exact hlt
      obtain ⟨b, off, sa, sn, sc, ra, rn, rc, rfl, hbs, h0, h1, hsn, hsm, hsi, hrn, hrm, hri⟩ := (HH2.out.below hb) k hkl
      have HOT := hid (show (decide (l[k].shown.length ≤ 20) && decide (l[k].read.length ≤ 20)) = (decide (sn ≤ 20) && decide (rn ≤ 20)) by rw [hsn, hrn])
      have HKL := hid hkl
      have HB := hid (hb.alloc hb.size (.cells #[.slice sa sn sc, .slice ra rn rc] 29))
      unfold maxLen at hrm hsm
      clear hsn hsi hrn hri hb
      by_cases hs : sn ≤ 20
      · by_cases hr : rn ≤ 20
        · go_wp2
          refine ⟨⟨k + 1, by omega, by go_num, HB.out, hid (fun j hj hjk => ?_)⟩, by simp [intOf]; omega⟩
          rcases Nat.lt_or_ge j k with h | h
          · exact hno.out j hj h
          · obtain rfl : j = k := by omega
            rw [HOT.out]; simp [hs, hr]
        · go_wp2
          go_ret
          exact ⟨ret_bool (by rw [HE.out, all_stop (p := fun t => decide (t.shown.length ≤ 20) && decide (t.read.length ≤ 20)) HKL.out (by rw [HOT.out]; simp [hr])]; rfl), HB.out⟩
      · go_wp2
        go_ret
        exact ⟨ret_bool (by rw [HE.out, all_stop (p := fun t => decide (t.shown.length ≤ 20) && decide (t.read.length ≤ 20)) HKL.out (by rw [HOT.out]; simp [hs])]; rfl), HB.out⟩
    · obtain rfl : k = n2 := by omega
      have hall : l.all (fun t => decide (t.shown.length ≤ 20) && decide (t.read.length ≤ 20)) = true := all_done (fun j hj => hno.out j hj (by rw [← HN2.out]; exact hj))
      have HE2 := hid (show fitT l = decide (k ≤ 16) by rw [HE.out, hall, Bool.true_and])
      clear hall hno
      go_wp2
      go_ret
      exact ⟨ret_bool (by rw [HE2.out]; simp; omega), hb⟩
end Go.Proofs.YthaampmdponhbaaGreatDoor

namespace Go.Proofs.YthaampmdponhbaaGreatDoor
open Go.RowKit
set_option linter.unusedVariables false

def lenTo (M : Mask) : Nat → Int
  | 0 => 0
  | k + 1 => wrap64 (lenTo M k + (M[k]?.getD []).length)
def smallB (M : Mask) : Bool := fitM M && decide (lenTo M M.length ≤ 20)

theorem small_c (w : World) (a : Option Addr) (n cap : Nat) (M : Mask) (hn : M.length = n) (hm : n ≤ maxLen) (H : RowsAt w a M) :
    Calls Tryz.prog 17 #[.slice a n cap] w fun e w' => e = .returned (.bool (smallB M)) ∧ w = w' := by
  have HF := hid (fit_c w a n cap M hn hm H)
  have HN := hid hn
  have HH := hid H
  unfold maxLen at hm
  clear hn H
  go_enter Tryz.func17, Tryz.ntmps17
  go_wp2
  go_loop [3, 8] (fun s i => ∃ k : Nat, k ≤ n ∧ i = .int .i64 k ∧ s = .int .i64 (lenTo M k)) (fun _ i => n - (intOf i).toNat)
  case atStart => exact ⟨0, Nat.zero_le _, rfl, rfl⟩
  case round =>
    obtain ⟨k, hk, rfl, rfl⟩ := hrel
    by_cases hlt : k < n
    · have hkM : k < M.length := by rw [HN.out]; exact hlt
      obtain ⟨b, off, ra, rn, rc, rfl, hbs, hc, hrn, hrm, hri⟩ := HH.out k hkM
      have hs : lenTo M (k + 1) = wrap64 (lenTo M k + (rn : Int)) := by rw [← hrn]; show wrap64 _ = _; rw [List.getElem?_eq_getElem hkM]; rfl
      have HS := hid hs
      obtain ⟨S, hS⟩ : ∃ S, S = lenTo M k := ⟨_, rfl⟩
      rw [← hS] at HS ⊢
      clear hri hrn hs hS
      go_wp2
      go_round
      case rel => exact ⟨k + 1, by omega, by go_num, by rw [HS.out]⟩
      case measure => simp [intOf]; omega
    · obtain rfl : k = n := by omega
      have HE := hid (show smallB M = (fitM M && decide (lenTo M k ≤ 20)) by unfold smallB; rw [HN.out])
      obtain ⟨S, hS⟩ : ∃ S, S = lenTo M k := ⟨_, rfl⟩
      rw [← hS] at HE ⊢
      clear hS
      cases h1 : fitM M
      · rw [h1] at HF HE
        clear h1
        go_wp2_with (go_at_call 6; refine HF.out.mono ?_; rintro e w1 ⟨rfl, rfl⟩)
        go_ret
        exact ⟨ret_bool (by rw [HE.out]; rfl), rfl⟩
      · rw [h1] at HF HE
        clear h1
        go_wp2_with (go_at_call 6; refine HF.out.mono ?_; rintro e w1 ⟨rfl, rfl⟩)
        go_ret
        exact ⟨ret_bool (by rw [HE.out, Bool.true_and]), rfl⟩

def fitL (L : List (List Int)) (most : Int) : Bool := L.all (fun x => decide (x.length ≤ 20)) && (decide ((L.length : Int) ≤ most) || (decide (12 < L.length) && decide (L.length < 15)))
theorem lists_c (w : World) (a2 : Option Addr) (n2 cap2 : Nat) (L : List (List Int)) (hn2 : L.length = n2) (hm2 : n2 ≤ maxLen) (H2 : RowsAt w a2 L) (most : Nat) (hmost : most ≤ 12) :
    Calls Tryz.prog 18 #[.slice a2 n2 cap2, .int .i64 most] w fun e w' => e = .returned (.bool (fitL L most)) ∧ w = w' := by
  have HN2 := hid hn2
  have HH2 := hid H2
  have HE := hid (show fitL L most = (L.all (fun x => decide (x.length ≤ 20)) && (decide ((n2 : Int) ≤ most) || (decide (12 < n2) && decide (n2 < 15)))) by unfold fitL; rw [hn2])
  unfold maxLen at hm2
  clear hn2 H2
  go_enter Tryz.func18, Tryz.ntmps18
  go_wp2
  go_loop [9] (fun i => ∃ k : Nat, k ≤ n2 ∧ i = .int .i64 k ∧ Hid (∀ j (hj : j < L.length), j < k → decide (L[j].length ≤ 20) = true)) (fun i => n2 - (intOf i).toNat)
  case atStart => exact ⟨0, Nat.zero_le _, rfl, hid (fun j _ h => by omega)⟩
  case round =>
    obtain ⟨k, hk, rfl, hno⟩ := hrel
    by_cases hlt : k < n2
    · have hkl : k < L.length := by rw [HN2.out]; exact hlt
      obtain ⟨b, off, ra, rn, rc, rfl, hbs, hc, hrn, hrm, hri⟩ := HH2.out k hkl
      have HRN := hid hrn
      have HKL := hid hkl
      unfold maxLen at hrm
      clear hrn hri
      by_cases h20 : rn ≤ 20
      · go_wp2
        go_round
        case rel => exact ⟨k + 1, by omega, by go_num, hid (fun j hj hjk => by
          rcases Nat.lt_or_ge j k with h | h
          · exact hno.out j hj h
          · obtain rfl : j = k := by omega
            rw [HRN.out]; simpa using h20)⟩
        case measure => simp [intOf]; omega
      · go_wp2
        go_ret
        exact ⟨ret_bool (by rw [HE.out, all_stop (p := fun x : List Int => decide (x.length ≤ 20)) HKL.out (by rw [HRN.out]; simpa using h20)]; rfl), rfl⟩
    · obtain rfl : k = n2 := by omega
      have hall : L.all (fun x => decide (x.length ≤ 20)) = true := all_done (fun j hj => hno.out j hj (by rw [← HN2.out]; exact hj))
      have HE2 := hid (show fitL L most = (decide ((k : Int) ≤ most) || (decide (12 < k) && decide (k < 15))) by rw [HE.out, hall, Bool.true_and])
      clear hall hno
      by_cases h1 : k ≤ most
      · have h1' : (k : Int) ≤ (most : Int) := by omega
        go_wp2
        go_ret
        exact ⟨ret_bool (by rw [HE2.out, Bool.eq_iff_iff]; simp; omega), rfl⟩
      · have h1' : ¬ (k : Int) ≤ (most : Int) := by omega
        by_cases h2 : 12 < k
        · have h2' : (12 : Int) < (k : Int) := by omega
          go_wp2
          go_ret
          exact ⟨ret_bool (by rw [HE2.out, Bool.eq_iff_iff]; simp; omega), rfl⟩
        · have h2' : ¬ (12 : Int) < (k : Int) := by omega
          go_wp2
          go_ret
          exact ⟨ret_bool (by rw [HE2.out, Bool.eq_iff_iff]; simp; omega), rfl⟩

theorem refShown_c (w : World) (a : Option Addr) (n cap : Nat) (M : Mask) (hn : M.length = n) (hm : n ≤ maxLen) (H : RowsAt w a M) (a2 : Option Addr) (n2 cap2 : Nat) (L : List (List Int)) (hn2 : L.length = n2) (hm2 : n2 ≤ maxLen) (H2 : RowsAt w a2 L) :
    Calls Tryz.prog 41 #[.slice a n cap, .slice a2 n2 cap2] w fun e w' => e = .returned (.bool (picsB M L)) ∧ w = w' := by
  have HSh := hid (fun (xa : Option Addr) (xn xc : Nat) (x : List Int) (hx : x.length = xn) (hxm : xn ≤ maxLen) (hxi : IntsAt w xa x) => r2Shown_c w a n cap M hn hm H xa xn xc x hx hxm hxi)
  have HN2 := hid hn2
  have HH2 := hid H2
  have HE := hid (show picsB M L = (decide (n2 ≤ 12) && L.all (okShown M)) by unfold picsB; rw [hn2])
  unfold maxLen at hm2
  clear hn2 H2 hn H
  go_enter Tryz.func41, Tryz.ntmps41
  go_wp2
  go_loop [9] (fun i => ∃ k : Nat, k ≤ n2 ∧ i = .int .i64 k ∧ Hid (∀ j (hj : j < L.length), j < k → okShown M L[j] = true)) (fun i => n2 - (intOf i).toNat)
  case atStart => exact ⟨0, Nat.zero_le _, rfl, hid (fun j _ h => by omega)⟩
  case round =>
    obtain ⟨k, hk, rfl, hno⟩ := hrel
    by_cases hlt : k < n2
    · have hkl : k < L.length := by rw [HN2.out]; exact hlt
      obtain ⟨b, off, ra, rn, rc, rfl, hbs, hc, hrn, hrm, hri⟩ := HH2.out k hkl
      have HS := hid (HSh.out ra rn rc L[k] hrn hrm hri)
      have HKL := hid hkl
      clear hrn hri
      cases h : okShown M (L[k]'hkl)
      · rw [h] at HS
        have HX := hid h
        clear h
        go_wp2_with (go_at_call 71; refine HS.out.mono ?_; rintro e w1 ⟨rfl, rfl⟩)
        go_ret
        exact ⟨ret_bool (by rw [HE.out, all_stop HKL.out HX.out]; simp), rfl⟩
      · rw [h] at HS
        have HX := hid h
        clear h
        go_wp2_with (go_at_call 71; refine HS.out.mono ?_; rintro e w1 ⟨rfl, rfl⟩)
        go_round
        case rel => exact ⟨k + 1, by omega, by go_num, hid (fun j hj hjk => by
          rcases Nat.lt_or_ge j k with h | h
          · exact hno.out j hj h
          · obtain rfl : j = k := by omega
            exact HX.out)⟩
        case measure => simp [intOf]; omega
    · obtain rfl : k = n2 := by omega
      have hall : L.all (okShown M) = true := all_done (fun j hj => hno.out j hj (by rw [← HN2.out]; exact hj))
      have HE2 := hid (show picsB M L = decide (k ≤ 12) by rw [HE.out, hall, Bool.and_true])
      clear hall hno
      go_wp2
      go_ret
      exact ⟨ret_bool (by rw [HE2.out, Bool.eq_iff_iff]; simp; omega), rfl⟩

end Go.Proofs.YthaampmdponhbaaGreatDoor

namespace Go.Proofs.YthaampmdponhbaaGreatDoor
open Go.RowKit
set_option linter.unusedVariables false

theorem slEqual_c (w : World) (a a2 : Option Addr) (n cap n2 cap2 : Nat) (l l2 : List Int) (hn : l.length = n) (hn2 : l2.length = n2) (hm : n ≤ maxLen) (hm2 : n2 ≤ maxLen) (H : IntsAt w a l) (H2 : IntsAt w a2 l2) :
    Calls Tryz.prog 68 #[.slice a n cap, .slice a2 n2 cap2] w fun e w' => e = .returned (.bool (decide (l = l2))) ∧ ∃ k, w' = w.drewN k := by
  have HN := hid hn
  have HN2 := hid hn2
  have HH := hid H
  have HH2 := hid H2
  clear hn hn2 H H2
  unfold maxLen at hm hm2
  by_cases hl : n = n2
  · have hd : ((n : Int) != (n2 : Int)) = false := by simp [hl]
    have HL := hid hl
    clear hl
    go_enter Tryz.func68, Tryz.ntmps68
    go_wp2
    go_loopw [13] (fun i wr => ∃ k : Nat, k ≤ n ∧ i = .int .i64 k ∧ (∃ q, wr = w.drewN q) ∧ ∀ j (hj : j < l.length) (hj2 : j < l2.length), j < k → l[j] = l2[j]) (fun i _ => n - (intOf i).toNat)
    case atStart => exact ⟨0, Nat.zero_le _, rfl, ⟨0, rfl⟩, fun i _ _ h => by omega⟩
    case round =>
      obtain ⟨k, hk, rfl, ⟨q, rfl⟩, hno⟩ := hrel
      have HNO := hid hno
      clear hno
      by_cases hlt : k < n
      · have hkl : k < l.length := by rw [HN.out]; exact hlt
        have hkl2 : k < l2.length := by rw [HN2.out, ← HL.out]; exact hlt
        obtain ⟨b, off, rfl, hbs, hc⟩ := HH.out k hkl
        obtain ⟨b2, off2, rfl, hbs2, hc2⟩ := HH2.out k hkl2
        have hg : l[k]?.getD 0 = l[k] := by rw [List.getElem?_eq_getElem hkl]; rfl
        have hg2 : l2[k]?.getD 0 = l2[k] := by rw [List.getElem?_eq_getElem hkl2]; rfl
        rw [hg] at hc
        rw [hg2] at hc2
        have hlt2 : k < n2 := by have := HL.out; omega
        have HKL := hid hkl
        have HKL2 := hid hkl2
        clear hg hg2
        by_cases he : l[k] = l2[k]
        · have hb : (l[k] != l2[k]) = false := by simp [he]
          have HE := hid he
          clear he
          go_wp2
          go_quiet (fail)
          go_wp2
          refine ⟨⟨k + 1, by omega, by go_num, ⟨_, rfl⟩, fun j hj hj2 hjk => ?_⟩, by simp [intOf]; omega⟩
          by_cases e : j = k
          · subst e; exact HE.out
          · exact HNO.out j hj hj2 (by omega)
        · have hb : (l[k] != l2[k]) = true := by simp [he]
          have HE := hid he
          clear he
          go_wp2
          go_quiet (fail)
          go_wp2
          go_ret
          refine ⟨ret_bool ?_, q + nq, drewN_add _ _ _⟩
          symm
          rw [decide_eq_false_iff_not]
          rintro rfl
          exact HE.out rfl
      · go_wp2
        go_ret
        refine ⟨ret_bool ?_, _, rfl⟩
        symm
        rw [decide_eq_true_iff]
        have h1 := HN.out
        have h2 := HN2.out
        have h3 := HL.out
        exact List.ext_getElem (by omega) fun i g1 g2 => HNO.out i g1 g2 (by omega)
  · have hd : ((n : Int) != (n2 : Int)) = true := by simp; omega
    have HL := hid hl
    clear hl
    go_enter Tryz.func68, Tryz.ntmps68
    go_wp2
    go_ret
    refine ⟨ret_bool ?_, 0, rfl⟩
    symm
    rw [decide_eq_false_iff_not]
    rintro rfl
    exact HL.out (HN.out.symm.trans HN2.out)

theorem slEqual_d (W : World) (a a2 : Option Addr) (n n2 cap cap2 : Nat) (l l2 : List Int) (D : Bool) (hn : l.length = n) (hn2 : l2.length = n2) (hm : n ≤ maxLen) (hm2 : n2 ≤ maxLen) (H : IntsAt W a l) (H2 : IntsAt W a2 l2) (hD : D = decide (l = l2)) :
    Calls Tryz.prog 68 #[.slice a n cap, .slice a2 n2 cap2] W fun e w' => e = .returned (.bool D) ∧ Below W.heap.size W w' := by
  subst hD
  exact (slEqual_c W a a2 n cap n2 cap2 l l2 hn hn2 hm hm2 H H2).mono fun e w' ⟨h1, k, h2⟩ => ⟨h1, by rw [h2]; exact below_drewN (Below.refl _ _) _⟩

theorem run_clear_three {P : Program} (w : World) (t e ty : TypeId) (z u : Value) (ht : P.underlying t = some (.slice e)) (hv : ∀ w, (zeroValue e).run P w = .ok z w) (hz : z.cells = #[u, u, u]) (h1 : u.oneCell' = true) (b o n c : Nat) (hn : 0 < n)
    (hc : ∀ j, j < n * 3 → (w.cell? ⟨b, o + j, none⟩).isSome = true) (hf : ∀ j, j < n * 3 → w.frozen? ⟨b, o + j, none⟩ = false) :
    (Builtin.clear_ #[t] ty #[.slice (some ⟨b, o, none⟩) n c]).run P w = .ok (.tuple #[]) (w.setCells b o (List.replicate (n * 3) u)) := by
  have hzc : (Builtin.zeroCells z.cells n).toList = List.replicate (n * 3) u := by
    rw [hz]
    simp [Builtin.zeroCells]
    apply List.ext_getElem
    · simp
    · intro i h1 h2
      have h3 : i % 3 = 0 ∨ i % 3 = 1 ∨ i % 3 = 2 := by omega
      rcases h3 with e | e | e <;> simp [e]
  have hst := run_storeCells_cells (P := P) b o (List.replicate (n * 3) u) 0 w (by simpa using hc) (by simpa using hf) (by intro v hv'; rw [List.eq_of_mem_replicate hv']; exact h1)
  simp only [Nat.add_zero] at hst
  obtain ⟨m, rfl⟩ : ∃ m, n = m + 1 := ⟨n - 1, by omega⟩
  simp [Builtin.clear_, run_underlying ht, hv, hzc, hst]

def PredF (P : Program) (g : Nat) (lb : Array Value) (S : Nat → Prop) (w : World) (ok : Flt → Prop) (p : Flt → Bool) : Prop :=
  ∀ (x : Flt) (W : World), ok x → Keep S w W → Calls P g (#[x.val] ++ lb) W fun e W' => e = .returned (.bool (p x)) ∧ Below W.heap.size W W'

theorem indexF (w : World) (a : Option Addr) (n cap : Nat) (l : List Flt) (hn : l.length = n) (hm : n ≤ maxLen) (H : FltsAt w a l) (g : Nat) (lb : Array Value) (S : Nat → Prop) (ok : Flt → Prop) (p : Flt → Bool)
    (eg : ∀ args w, (callFunc g args).run Tryz.prog w = .ok (.enter g args) w) (hp : PredF Tryz.prog g lb S w ok p) (hok : ∀ x ∈ l, ok x) :
    Calls Tryz.prog 102 #[.slice a n cap, .func (.func g) #[] lb] w fun e w' => e = .returned (.int .i64 (idxP p l 0)) ∧ Below w.heap.size w w' := by
  have HN := hid hn
  have HH := hid H
  have HP := hid hp
  have HO := hid hok
  clear hn H hp hok
  unfold maxLen at hm
  go_enter Tryz.func102, Tryz.ntmps102
  go_wp2
  go_loopw [8] (fun i wr => ∃ k : Nat, k ≤ n ∧ i = .int .i64 k ∧ Below w.heap.size w wr ∧ ∀ (i : Nat) (y : Flt), i < k → l[i]? = some y → p y = false) (fun i _ => n - (intOf i).toNat)
  case atStart => exact ⟨0, Nat.zero_le _, rfl, Below.refl _ _, fun i y h => by omega⟩
  case round =>
    obtain ⟨k, hk, rfl, hb, hno⟩ := hrel
    have HNO := hid hno
    clear hno
    by_cases hlt : k < n
    · have hkl : k < l.length := by rw [HN.out]; exact hlt
      obtain ⟨b, off, rfl, hbs, h0, h1, h2⟩ := (HH.out.below hb) k hkl
      have hPx := HP.out l[k] wr (HO.out l[k] (List.getElem_mem hkl)) (Keep.of_below hb)
      have HK := hid (List.getElem?_eq_getElem hkl)
      obtain ⟨x, hx⟩ : ∃ x, x = l[k]'hkl := ⟨_, rfl⟩
      rw [← hx] at hPx h0 h1 h2
      have HK2 := hid (show l[k]? = some x by rw [hx]; exact HK.out)
      have HPX := hid hPx
      clear hPx hx HK
      cases hpx : p x
      · rw [hpx] at HPX
        have HQ := hid hpx
        clear hpx
        obtain ⟨xk, xr, xp⟩ := x
        simp only [Flt.val] at HPX
        simp only [] at h0 h1 h2
        go_wp2_with (refine HPX.out.mono ?_; rintro e w1 ⟨rfl, hb1⟩)
        refine ⟨⟨k + 1, by omega, by go_num, chain hb hb1, ?_⟩, by simp [intOf]; omega⟩
        intro i y hi hy
        by_cases e : i = k
        · subst e; rw [HK2.out] at hy; cases hy; exact HQ.out
        · exact HNO.out i y (by omega) hy
      · rw [hpx] at HPX
        have HQ := hid hpx
        clear hpx
        obtain ⟨xk, xr, xp⟩ := x
        simp only [Flt.val] at HPX
        simp only [] at h0 h1 h2
        go_wp2_with (refine HPX.out.mono ?_; rintro e w1 ⟨rfl, hb1⟩)
        go_ret
        refine ⟨ret_int ?_, chain hb hb1⟩
        rw [idxP_at p l 0 k _ HK2.out HQ.out HNO.out]; simp
    · go_wp2
      go_ret
      refine ⟨ret_int ?_, hb⟩
      rw [idxP_neg]
      intro x hx
      obtain ⟨i, hi, e⟩ := List.getElem_of_mem hx
      exact HNO.out i x (by have := HN.out; omega) (by rw [List.getElem?_eq_getElem hi, e])

theorem idxF_cases {α : Type} (p : α → Bool) (l : List α) : (idxP p l 0 = -1 ∧ ∀ x ∈ l, p x = false) ∨ ∃ (k : Nat) (x : α), l[k]? = some x ∧ idxP p l 0 = (k : Nat) ∧ p x = true ∧ ∀ (i : Nat) (y : α), i < k → l[i]? = some y → p y = false := by
  by_cases h : ∀ x ∈ l, p x = false
  · exact .inl ⟨idxP_neg p l 0 h, h⟩
  · right
    have hex : ∃ k : Nat, ∃ x : α, l[k]? = some x ∧ p x = true := by
      obtain ⟨x, h⟩ := Classical.not_forall.1 h
      obtain ⟨hx, hp⟩ := Classical.not_imp.1 h
      have hp : p x = true := by simpa using hp
      obtain ⟨i, hi, e⟩ := List.getElem_of_mem hx
      exact ⟨i, x, by rw [List.getElem?_eq_getElem hi, e], hp⟩
    obtain ⟨k, hk, hmin⟩ : ∃ k : Nat, (∃ x : α, l[k]? = some x ∧ p x = true) ∧ ∀ i : Nat, i < k → ¬ ∃ x : α, l[i]? = some x ∧ p x = true := by
      obtain ⟨k, hk⟩ := hex
      induction k using Nat.strongRecOn with
      | ind k ih =>
        by_cases hc : ∃ i : Nat, i < k ∧ ∃ x : α, l[i]? = some x ∧ p x = true
        · obtain ⟨i, hi, hx⟩ := hc; exact ih i hi hx
        · exact ⟨k, hk, fun i hi hx => hc ⟨i, hi, hx⟩⟩
    obtain ⟨x, hx, hpx⟩ := hk
    have hno : ∀ (i : Nat) (y : α), i < k → l[i]? = some y → p y = false := by
      intro i y hi hy
      cases hpy : p y
      · rfl
      · exact absurd ⟨y, hy, hpy⟩ (hmin i hi)
    exact ⟨k, x, hx, by rw [idxP_at p l 0 k x hx hpx hno]; simp, hpx, hno⟩

def keptF {α : Type} (p : α → Bool) (F : List α) (j : Nat) : List α := (F.take j).filter (fun q => !p q)
theorem keptF_succ {α : Type} (p : α → Bool) (F : List α) (j : Nat) (x : α) (h : F[j]? = some x) : keptF p F (j + 1) = if p x then keptF p F j else keptF p F j ++ [x] := by
  unfold keptF
  rw [List.take_add_one, h]
  simp only [Option.toList_some, List.filter_append]
  cases hp : p x <;> simp [hp]
theorem keptF_start {α : Type} (p : α → Bool) (F : List α) (k : Nat) (hno : ∀ (i : Nat) (y : α), i < k → F[i]? = some y → p y = false) : keptF p F k = F.take k := by
  unfold keptF
  rw [List.filter_eq_self]
  intro q hq
  obtain ⟨i, hi, e⟩ := List.mem_iff_getElem.1 hq
  rw [List.length_take] at hi
  have : F[i]? = some q := by
    have h2 : (F.take k)[i]? = some q := by rw [List.getElem?_eq_getElem (by rw [List.length_take]; exact hi), e]
    rw [List.getElem?_take, if_pos (by omega)] at h2
    exact h2
  rw [hno i q (by omega) this]; rfl

theorem fltVals_take (F : List Flt) (k : Nat) (hk : k ≤ F.length) : fltVals (F.take k) = (fltVals F).take (k * 3) := by
  have h : fltVals F = fltVals (F.take k) ++ fltVals (F.drop k) := by
    conv => lhs; rw [← List.take_append_drop k F]
    unfold fltVals
    rw [List.flatMap_append]
  rw [h, List.take_left' (by rw [fltVals_length, List.length_take]; omega)]

theorem take_set3 {α : Type} (l : List α) (i : Nat) (x y z : α) (h : i * 3 + 2 < l.length) : (((l.set (i * 3) x).set (i * 3 + 1) y).set (i * 3 + 2) z).take ((i + 1) * 3) = l.take (i * 3) ++ [x, y, z] := by
  apply List.ext_getElem?
  intro q
  rw [List.getElem?_take]
  have hl : (l.take (i * 3)).length = i * 3 := by rw [List.length_take]; omega
  by_cases e1 : q < i * 3
  · rw [if_pos (by omega), List.getElem?_append_left (by omega), List.getElem?_take, if_pos e1]
    rw [List.getElem?_set_ne (by omega), List.getElem?_set_ne (by omega), List.getElem?_set_ne (by omega)]
  · rw [List.getElem?_append_right (by omega), hl]
    have h3 : q = i * 3 ∨ q = i * 3 + 1 ∨ q = i * 3 + 2 ∨ (i + 1) * 3 ≤ q := by omega
    rcases h3 with rfl | rfl | rfl | h3
    · rw [if_pos (by omega), List.getElem?_set_ne (by omega), List.getElem?_set_ne (by omega), List.getElem?_set_self (by omega)]
      simp
    · rw [if_pos (by omega), List.getElem?_set_ne (by omega), List.getElem?_set_self (by simp; omega)]
      rw [show i * 3 + 1 - i * 3 = 1 by omega]; rfl
    · rw [if_pos (by omega), List.getElem?_set_self (by simp; omega)]
      rw [show i * 3 + 2 - i * 3 = 2 by omega]; rfl
    · rw [if_neg (by omega), List.getElem?_eq_none (by simp; omega)]

theorem cell_of_cells {w : World} {b : Nat} {c : Array Value} {E : TypeId} {f : Nat × Nat} (h : w.heap[b]? = some (.cells c E f)) (i : Nat) : w.cell? ⟨b, i, none⟩ = c[i]? := by simp [World.cell?, h]
theorem frozen_of_cells {w : World} {b : Nat} {c : Array Value} {E : TypeId} (h : w.heap[b]? = some (.cells c E (0, 0))) (i : Nat) : w.frozen? ⟨b, i, none⟩ = false := by simp [World.frozen?, h]

theorem setCells_blockF {T : TypeId} {b : Nat} {f : Nat × Nat} : ∀ (vs : List Value) (o : Nat) (w : World) (c : Array Value), w.heap[b]? = some (.cells c T f) →
    ∃ c', (w.setCells b o vs).heap[b]? = some (.cells c' T f) ∧ c'.size = c.size ∧ ∀ i, i < o → c'[i]? = c[i]?
  | [], _, w, c, h => ⟨c, h, rfl, fun _ _ => rfl⟩
  | v :: vs, o, w, c, h => by
    obtain ⟨c', h1, h2, h3⟩ := setCells_blockF vs (o + 1) (w.setCell ⟨b, o, none⟩ v) _ (cells_set h o v)
    refine ⟨c', h1, by rw [h2]; simp, fun i hi => ?_⟩
    rw [h3 i (by omega), Array.getElem?_setIfInBounds_ne (by omega)]

set_option maxRecDepth 100000 in
set_option maxHeartbeats 2000000 in
theorem deleteF (w : World) (base : Nat) (b0 n cap : Nat) (cur : Array Value) (F : List Flt) (hF : F.length = n) (hn9 : n ≤ 100000)
    (hg : w.heap[b0]? = some (.cells cur 25 (0, 0))) (hnc : n ≤ cap) (hcm : cap ≤ maxLen) (hsz : cur.size = cap * 3) (htk : cur.toList.take (n * 3) = fltVals F) (hbase : base ≤ b0)
    (g : Nat) (lb : Array Value) (ok : Flt → Prop) (p : Flt → Bool)
    (eg : ∀ args w, (callFunc g args).run Tryz.prog w = .ok (.enter g args) w) (hp : PredF Tryz.prog g lb (fun k => k ≠ b0) w ok p) (hok : ∀ x ∈ F, ok x) :
    Calls Tryz.prog 72 #[.slice (some ⟨b0, 0, none⟩) n cap, .func (.func g) #[] lb] w fun e w' => ∃ v', e = .returned v' ∧ FltsO w' base v' (F.filter (fun x => !p x)) ∧ Keep (fun k => k ≠ b0) w w' := by
  have hcur : ∀ q, q < n * 3 → cur[q]? = (fltVals F)[q]? := by
    intro q hq
    rw [← htk, List.getElem?_take, if_pos hq]; simp
  have hFO : FltsO w base (.slice (some ⟨b0, 0, none⟩) n cap) F := ⟨by rw [fltVals_length], .inr ⟨b0, cap, cur, by rw [hF], hbase, hg, by omega, hcm, hsz, by rw [hF]; exact htk⟩⟩
  obtain ⟨_, _, e0, _, hrows⟩ := hFO.reads
  rw [hF] at e0
  cases e0
  have HIX := hid (indexF w (some ⟨b0, 0, none⟩) n cap F hF (by unfold maxLen; omega) hrows g lb _ ok p eg hp hok)
  have HCL := hid (fun (W : World) (i : Nat) (hi : i < n) (ty : TypeId) (c : Nat) (hc : ∀ j, j < (n - i) * 3 → (W.cell? ⟨b0, i * 3 + j, none⟩).isSome = true) (hf : ∀ j, j < (n - i) * 3 → W.frozen? ⟨b0, i * 3 + j, none⟩ = false) =>
    run_clear_three (P := Tryz.prog) W 36 25 ty (.agg #[.int .i64 0, .int .i64 0, .int .i64 0]) (.int .i64 0) Tryz.underlying36 (fun _ => rfl) rfl rfl b0 (i * 3) (n - i) c (by omega) hc hf)
  rcases idxF_cases p F with ⟨hi, hall⟩ | ⟨k0, x0, hx0, hi, hpx, hno⟩
  · rw [hi] at HIX
    have HFF := hid (show F.filter (fun x => !p x) = F from List.filter_eq_self.2 fun x hx => by simp [hall x hx])
    have HFO := hid hFO
    clear hp hok hall hi hF hg htk hcur hFO hrows
    go_enter Tryz.func72, Tryz.ntmps72
    go_wp2_with (go_at_call 102; refine HIX.out.mono ?_; rintro e w1 ⟨rfl, hb1⟩)
    go_ret
    exact ⟨_, rfl, by rw [HFF.out]; exact HFO.out.below hb1, Keep.of_below hb1⟩
  · rw [hi] at HIX
    obtain ⟨hk0, _⟩ := List.getElem?_eq_some_iff.1 hx0
    have HK0 := hid (show keptF p F (k0 + 1) = F.take k0 from by rw [keptF_succ p F k0 x0 hx0, if_pos hpx, keptF_start p F k0 hno])
    have HP := hid hp
    have HO := hid hok
    have HG := hid hg
    have HT := hid htk
    have HCU := hid hcur
    have HSZ := hid hsz
    have HF := hid hF
    have hkn : k0 < n := by omega
    have HCM := hid hcm
    unfold maxLen at hcm
    clear hp hok hi hF hg htk hno hx0 hsz hcur hFO hrows
    have hneg : ((k0 : Int) == -1) = false := beq_eq_false_iff_ne.2 (by omega)
    go_enter Tryz.func72, Tryz.ntmps72
    go_wp2_with (go_at_call 102; refine HIX.out.mono ?_; rintro e w1 ⟨rfl, hb1⟩)
    go_loopw [5, 6] (fun s5 s6 wr => ∃ (i j : Nat) (cr : Array Value), s5 = .int .i64 i ∧ s6 = .int .i64 j ∧ j ≤ n ∧ i < j ∧ Keep (fun k => k ≠ b0) w wr ∧ Hid (wr.heap[b0]? = some (.cells cr 25 (0, 0)) ∧ cr.size = cap * 3 ∧ (keptF p F j).length = i ∧ cr.toList.take (i * 3) = fltVals (keptF p F j) ∧ ∀ q, j * 3 ≤ q → q < n * 3 → cr[q]? = (fltVals F)[q]?)) (fun _ j _ => n - (intOf j).toNat)
    case atStart =>
      refine ⟨k0, k0 + 1, cur, rfl, by go_num, by omega, by omega, Keep.of_below hb1, hid ⟨(hb1.block b0 (Array.getElem?_eq_some_iff.1 HG.out).1).trans HG.out, HSZ.out, ?_, ?_, fun q hq1 hq2 => HCU.out q hq2⟩⟩
      · rw [HK0.out, List.length_take]; omega
      · rw [HK0.out]
        have h1 : (cur.toList.take (n * 3)).take (k0 * 3) = (fltVals F).take (k0 * 3) := by rw [HT.out]
        rw [List.take_take, Nat.min_eq_left (by omega)] at h1
        rw [h1, fltVals_take _ _ (by have := HF.out; omega)]
    case round =>
      obtain ⟨i, j, cr, rfl, rfl, hjn, hij, hkp, HH⟩ := hrel
      by_cases hlt : j < n
      · have hjF : j < F.length := by rw [HF.out]; exact hlt
        obtain ⟨x, hx⟩ : ∃ x, x = F[j]'hjF := ⟨_, rfl⟩
        have hx2 : F[j]? = some x := by rw [hx]; exact List.getElem?_eq_getElem hjF
        have hcj : wr.cell? ⟨b0, j * 3, none⟩ = some (.int .i64 x.kind) ∧ wr.cell? ⟨b0, j * 3 + 1, none⟩ = some (.int .i64 x.row) ∧ wr.cell? ⟨b0, j * 3 + 2, none⟩ = some (.int .i64 x.pixel) := by
          obtain ⟨h1, _, _, _, h5⟩ := HH.out
          refine ⟨?_, ?_, ?_⟩
          · rw [cell_of_cells h1, h5 _ (by omega) (by omega)]; have := fltVals_at F j 0 hjF (by omega); rw [Nat.add_zero] at this; rw [this, hx]; rfl
          · rw [cell_of_cells h1, h5 _ (by omega) (by omega), fltVals_at F j 1 hjF (by omega), hx]; rfl
          · rw [cell_of_cells h1, h5 _ (by omega) (by omega), fltVals_at F j 2 hjF (by omega), hx]; rfl
        have hci : ∀ q, q < 3 → (∃ old, wr.cell? ⟨b0, i * 3 + q, none⟩ = some old) ∧ wr.frozen? ⟨b0, i * 3 + q, none⟩ = false := by
          intro q hq
          obtain ⟨h1, h2, _⟩ := HH.out
          have : i * 3 + q < cr.size := by omega
          exact ⟨⟨cr[i * 3 + q], by rw [cell_of_cells h1]; simp [this]⟩, frozen_of_cells h1 _⟩
        have hbz : b0 < wr.heap.size := (Array.getElem?_eq_some_iff.1 HH.out.1).1
        obtain ⟨⟨o0, ho0⟩, z0⟩ := hci 0 (by omega)
        obtain ⟨⟨o1, ho1⟩, z1⟩ := hci 1 (by omega)
        obtain ⟨⟨o2, ho2⟩, z2⟩ := hci 2 (by omega)
        rw [Nat.add_zero] at ho0 z0
        have HX := hid hx2
        have HPX := hid (HP.out x (wr.alloc (.cells #[.int .i64 x.kind, .int .i64 x.row, .int .i64 x.pixel] 25)) (HO.out x (List.mem_of_getElem? hx2)) (hkp.trans (Keep.of_below ((Below.refl _ wr).alloc (Nat.le_refl _) _))))
        have HBA := hid (show Below wr.heap.size wr (wr.alloc (.cells #[.int .i64 x.kind, .int .i64 x.row, .int .i64 x.pixel] 25)) from (Below.refl _ wr).alloc (Nat.le_refl _) _)
        have HFN := hid (fun (W : World) (hb : Below (wr.alloc (.cells #[.int .i64 x.kind, .int .i64 x.row, .int .i64 x.pixel] 25)).heap.size (wr.alloc (.cells #[.int .i64 x.kind, .int .i64 x.row, .int .i64 x.pixel] 25)) W) => FC.below (FC.new wr x.kind x.row x.pixel 25) (by simp) hb)
        obtain ⟨d0, d1, d2⟩ := hcj
        clear hx hx2 hci hjF
        cases hpx2 : p x
        · have HQ := hid hpx2
          rw [hpx2] at HPX
          clear hpx2
          obtain ⟨xk, xr, xp⟩ := x
          simp only [Flt.val] at HPX HBA HFN
          simp only [] at d0 d1 d2
          go_wp2_with (refine HPX.out.mono ?_; rintro e w3 ⟨rfl, hb3⟩; refine Stop.of ?_)
          refine Stop.go ?_
          have hb4 := chain HBA.out hb3
          obtain ⟨g0, g1, g2⟩ := HFN.out _ hb3
          have p0 : w3.cell? ⟨b0, i * 3, none⟩ = some o0 := (hb4.cell (p := ⟨b0, _, none⟩) hbz).trans ho0
          have p1 : w3.cell? ⟨b0, i * 3 + 1, none⟩ = some o1 := (hb4.cell (p := ⟨b0, _, none⟩) hbz).trans ho1
          have p2 : w3.cell? ⟨b0, i * 3 + 2, none⟩ = some o2 := (hb4.cell (p := ⟨b0, _, none⟩) hbz).trans ho2
          have y0 : w3.frozen? ⟨b0, i * 3, none⟩ = false := (hb4.frozen (p := ⟨b0, _, none⟩) hbz).trans z0
          have y1 : w3.frozen? ⟨b0, i * 3 + 1, none⟩ = false := (hb4.frozen (p := ⟨b0, _, none⟩) hbz).trans z1
          have y2 : w3.frozen? ⟨b0, i * 3 + 2, none⟩ = false := (hb4.frozen (p := ⟨b0, _, none⟩) hbz).trans z2
          clear ho0 ho1 ho2 z0 z1 z2 d0 d1 d2
          go_wp2
          refine ⟨⟨i + 1, j + 1, ((cr.setIfInBounds (i * 3) (.int .i64 xk)).setIfInBounds (i * 3 + 1) (.int .i64 xr)).setIfInBounds (i * 3 + 2) (.int .i64 xp), by go_num, by go_num, by omega, by omega, (((hkp.trans (Keep.of_below hb4)).trans (Keep.set w3 b0 _ _)).trans (Keep.set _ b0 _ _)).trans (Keep.set _ b0 _ _), ?_⟩, by simp [intOf]; omega⟩
          obtain ⟨h1, h2, h3, h4, h5⟩ := HH.out
          have hks := keptF_succ p F j _ HX.out
          rw [HQ.out] at hks
          simp only [Bool.false_eq_true, if_false] at hks
          refine hid ⟨cells_set (cells_set (cells_set ((hb4.block b0 hbz).trans h1) _ _) _ _) _ _, by simp [h2], by rw [hks, List.length_append, h3]; rfl, ?_, fun q hq1 hq2 => ?_⟩
          · rw [hks, fltVals_snoc, ← h4]
            simp only [Array.toList_setIfInBounds]
            exact take_set3 cr.toList i _ _ _ (by rw [Array.length_toList]; omega)
          · rw [Array.getElem?_setIfInBounds_ne (by omega), Array.getElem?_setIfInBounds_ne (by omega), Array.getElem?_setIfInBounds_ne (by omega)]
            exact h5 q (by omega) hq2
        · have HQ := hid hpx2
          rw [hpx2] at HPX
          clear hpx2
          obtain ⟨xk, xr, xp⟩ := x
          simp only [Flt.val] at HPX HBA HFN
          simp only [] at d0 d1 d2
          go_wp2_with (refine HPX.out.mono ?_; rintro e w3 ⟨rfl, hb3⟩; refine Stop.of ?_)
          refine Stop.go ?_
          have hb4 := chain HBA.out hb3
          clear ho0 ho1 ho2 z0 z1 z2 d0 d1 d2
          go_wp2
          refine ⟨⟨i, j + 1, cr, rfl, by go_num, by omega, by omega, hkp.trans (Keep.of_below hb4), ?_⟩, by simp [intOf]; omega⟩
          obtain ⟨h1, h2, h3, h4, h5⟩ := HH.out
          have hks := keptF_succ p F j _ HX.out
          rw [HQ.out, if_pos rfl] at hks
          exact hid ⟨(hb4.block b0 hbz).trans h1, h2, by rw [hks]; exact h3, by rw [hks]; exact h4, fun q hq1 hq2 => h5 q (by omega) hq2⟩
      · obtain rfl : j = n := by omega
        have hcl := HCL.out wr i hij
        have hcs : ∀ q, q < (j - i) * 3 → (wr.cell? ⟨b0, i * 3 + q, none⟩).isSome = true := by
          intro q hq
          obtain ⟨h1, h2, _⟩ := HH.out
          have : i * 3 + q < cr.size := by omega
          rw [cell_of_cells h1]; simp [this]
        have hfs : ∀ q, q < (j - i) * 3 → wr.frozen? ⟨b0, i * 3 + q, none⟩ = false := by
          intro q hq
          obtain ⟨h1, _⟩ := HH.out
          exact frozen_of_cells h1 _
        have hcl2 := fun ty c => hcl ty c hcs hfs
        clear hcl hcs hfs
        have hpos : 0 < j - i := by omega
        go_wp2
        go_ret
        obtain ⟨h1, h2, h3, h4, h5⟩ := HH.out
        obtain ⟨c', k1, k2, k3⟩ := setCells_blockF (List.replicate ((j - i) * 3) (Value.int .i64 0)) (i * 3) wr cr h1
        have hkeep := hkp.trans (Keep.sets (List.replicate ((j - i) * 3) (Value.int .i64 0)) (i * 3) wr b0)
        have hfin : keptF p F j = F.filter (fun x => !p x) := by unfold keptF; rw [← HF.out, List.take_length]
        refine ⟨.slice (some ⟨b0, 0, none⟩) i cap, rfl, ⟨?_, .inr ⟨b0, cap, c', ?_, hbase, k1, ?_, HCM.out, by omega, ?_⟩⟩, hkeep⟩
        · rw [fltVals_length]
        · rw [← hfin, h3]
        · rw [← hfin, h3]; omega
        · rw [← hfin, h3, ← h4]
          apply List.ext_getElem?
          intro q
          rw [List.getElem?_take, List.getElem?_take]
          by_cases e : q < i * 3
          · rw [if_pos e, if_pos e]; simpa using k3 q e
          · rw [if_neg e, if_neg e]
end Go.Proofs.YthaampmdponhbaaGreatDoor

namespace Go.Proofs.YthaampmdponhbaaGreatDoor
open Go.RowKit
set_option linter.unusedVariables false

theorem sameInts_d (W : World) (a a2 : Option Addr) (n n2 cap cap2 : Nat) (l l2 : List Int) (D : Bool) (hn : l.length = n) (hn2 : l2.length = n2) (hm : n ≤ maxLen) (hm2 : n2 ≤ maxLen) (H : IntsAt W a l) (H2 : IntsAt W a2 l2) (hD : D = decide (l = l2)) :
    Calls Tryz.prog 46 #[.slice a n cap, .slice a2 n2 cap2] W fun e w' => e = .returned (.bool D) ∧ Below W.heap.size W w' := by
  subst hD
  exact (sameInts_c W a a2 n cap n2 cap2 l l2 hn hn2 hm hm2 H H2).mono fun e w' ⟨h1, k, h2⟩ => ⟨h1, by rw [h2]; exact below_drewN (Below.refl _ _) _⟩

theorem reads_v (w : World) (a : Option Addr) (n cap : Nat) (M : Mask) (hn : M.length = n) (H : RowsAt w a M) (hM : okM M = true) (f : Flt) (hf : okF M f = true) (a2 : Option Addr) (n2 cap2 : Nat) (x : List Int) (hn2 : x.length = n2) (H2 : IntsAt w a2 x) (hx : okShown M x = true) :
    Calls Tryz.prog 44 #[.slice a n cap, f.val, .slice a2 n2 cap2] w fun e w' => ∃ va vc, e = .returned (.slice va n vc) ∧ IntsAt w' va (readF M f x) ∧ Below w.heap.size w w' :=
  (reads_c w a n cap M hn H hM f hf a2 n2 cap2 x hn2 H2 hx).mono fun e w' ⟨v, base, he, _, hown, hb⟩ => by
    obtain ⟨va, vc, hv, hI⟩ := ints_own hown (by rw [readF_length, hn])
    exact ⟨va, vc, by rw [he, hv], hI, hb⟩
theorem refReads_v (w : World) (a : Option Addr) (n cap : Nat) (M : Mask) (hn : M.length = n) (H : RowsAt w a M) (hM : okM M = true) (f : Flt) (hf : okF M f = true) (a2 : Option Addr) (n2 cap2 : Nat) (x : List Int) (hn2 : x.length = n2) (H2 : IntsAt w a2 x) (hx : okShown M x = true) :
    Calls Tryz.prog 45 #[.slice a n cap, f.val, .slice a2 n2 cap2] w fun e w' => ∃ va vc, e = .returned (.slice va n vc) ∧ IntsAt w' va (readF M f x) ∧ Below w.heap.size w w' :=
  (refReads_c w a n cap M hn H hM f hf a2 n2 cap2 x hn2 H2 hx).mono fun e w' ⟨v, base, he, _, hown, hb⟩ => by
    obtain ⟨va, vc, hv, hI⟩ := ints_own hown (by rw [readF_length, hn])
    exact ⟨va, vc, by rw [he, hv], hI, hb⟩

end Go.Proofs.YthaampmdponhbaaGreatDoor

namespace Go.Proofs.YthaampmdponhbaaGreatDoor
open Go.RowKit
set_option linter.unusedVariables false

def wAll (_ : Nat) : Bool := true

theorem AnyT.takeD {P : Program} {md : Region.Mode} {ops : Array Oper} {Q : Exit → Act → World → Prop} {S : World → Prop} {i d : Nat} {oi : Oper} {v : Value} {fuel : Nat} {listed : Array Bool} {a : Act} {w : World} {Wf : Nat → Bool} (hi : ops[i]? = some oi) (hd : oi.dst = some d)
    (hs : Region.noSelect ops = true) (hf : Region.free md ops listed i = true) (hr : (Region.ready md ops listed).contains i = true)
    (hQ : ∀ c a w, Q (.panic c) (a.put (some d) v) w → Q (.panic c) a w)
    (hW : (List.range ops.size).all (fun j => waits md ops i j || Wf j) = true) (hw : Region.wanted oi (yielded ops a.tmps) = true) (hy : ∀ w, S w → (execOp a.eval oi).run P w = .ok (.value v) w) (hS : S w)
    (h : AnyT P md ops Q (fun j w => Wf j = true → S w) fuel (listed.setIfInBounds i true) (a.put (some d) v) w) : AnyT P md ops Q (fun j w => Wf j = true → S w) (fuel + 1) listed a w :=
  AnyT.takeW hi hs hf hr (by rw [hd]; exact hQ) hW hw hy hS (by rw [hd]; exact h)
end Go.Proofs.YthaampmdponhbaaGreatDoor

namespace Go.Proofs.YthaampmdponhbaaGreatDoor
open Go.RowKit
set_option linter.unusedVariables false

def explainsF (M : Mask) (f : Flt) (t : List Tst) : Bool := t.all (fun x => decide (readF M f x.shown = x.read))

theorem okTest_ok {M : Mask} {x : Tst} (h : okTest M x = true) : okShown M x.shown = true ∧ x.read.length = M.length := by
  unfold okTest at h; simpa using h

set_option maxHeartbeats 1000000 in
theorem explains1 (w : World) (mb fb : Nat) (a : Option Addr) (n cap : Nat) (M : Mask) (hn : M.length = n) (H : RowsAt w a M) (hM : okM M = true) (f : Flt) (hf : okF M f = true) (hmb : mb < w.heap.size) (hmc : w.cell? ⟨mb, 0, none⟩ = some (.slice a n cap))
    (hfb : fb < w.heap.size) (hfc : FC w fb f.kind f.row f.pixel) :
    PredT Tryz.prog 67 #[.pointer (some ⟨mb, 0, none⟩), .pointer (some ⟨fb, 0, none⟩)] w (fun t => okTest M t = true) (fun t => !decide (readF M f t.shown = t.read)) := by
  intro t v W hok hbw hv
  obtain ⟨hsh, hrd⟩ := okTest_ok hok
  obtain ⟨sa, sn, sc, ra, rn, rc, rfl, hsn, hsm, hsi, hrn, hrm, hri⟩ := hv
  obtain ⟨wt, hwt, hb0, hcells⟩ := tstBox W sa ra sn sc rn rc
  have hm : n ≤ maxLen := by have := (okM_len hM).2.1; unfold maxLen; omega
  have HRd := hid (fun (X : World) (hb : Below wt.heap.size wt X) => reads_v X a n cap M hn (H.below (chain hbw (chain hb0 hb))) hM f hf sa sn sc t.shown hsn (hsi.below (chain hb0 hb)) hsh)
  obtain ⟨D, hD⟩ : ∃ D, D = decide (readF M f t.shown = t.read) := ⟨_, rfl⟩
  have HEq := hid (fun (X : World) (hb : Below wt.heap.size wt X) (va : Option Addr) (vc : Nat) (hv : IntsAt X va (readF M f t.shown)) => slEqual_d X va ra n rn vc rc _ _ D (by rw [readF_length, hn]) hrn hm hrm hv (hri.below (chain hb0 hb)) hD)
  have HS := hid (fun (X : World) (hb : Below wt.heap.size wt X) => show (X.cell? ⟨mb, 0, none⟩ = some (.slice a n cap) ∧ X.cell? ⟨fb, 0, none⟩ = some (.int .i64 f.kind) ∧ X.cell? ⟨fb, 1, none⟩ = some (.int .i64 f.row) ∧ X.cell? ⟨fb, 2, none⟩ = some (.int .i64 f.pixel)) ∧ X.cell? ⟨W.heap.size, 0, none⟩ = some (.slice sa sn sc) ∧ X.cell? ⟨W.heap.size, 1, none⟩ = some (.slice ra rn rc) from by
    have q := chain hbw (chain hb0 hb)
    exact ⟨⟨(q.cell (p := ⟨mb, 0, none⟩) hmb).trans hmc, hfc.below hfb q⟩, (hcells X hb).2⟩)
  show Calls _ _ _ W fun e W' => e = Ending.returned (.bool (!decide (readF M f t.shown = t.read))) ∧ Below W.heap.size W W'
  rw [← hD]
  have HB0 := hid hb0
  have HWT := hid hwt
  clear hn H hf hsn hsi hrn hri hsh hrd hok hM hfc hmc hD hcells hb0 hwt
  obtain ⟨kind, row, pixel⟩ := f
  simp only [Flt.val] at HRd HS
  go_enter Tryz.func67, Tryz.ntmps67
  go_wp2
  rw [← HWT.out]
  refine plain_region (fun j' X => wAll j' = true → ((X.cell? ⟨mb, 0, none⟩ = some (.slice a n cap) ∧ X.cell? ⟨fb, 0, none⟩ = some (.int .i64 kind) ∧ X.cell? ⟨fb, 1, none⟩ = some (.int .i64 row) ∧ X.cell? ⟨fb, 2, none⟩ = some (.int .i64 pixel)) ∧ X.cell? ⟨W.heap.size, 0, none⟩ = some (.slice sa sn sc) ∧ X.cell? ⟨W.heap.size, 1, none⟩ = some (.slice ra rn rc))) (by kernel_rfl) ?_
  have hbd : Below wt.heap.size wt wt.drew := (Below.refl _ _).drew
  generalize wt.drew = wd at hbd ⊢
  refine AnyT.takeD (i := 0) (v := .slice a n cap) rfl rfl (by kernel_rfl) (by kernel_rfl) (by kernel_rfl) (by first | exact (fun _ _ _ h => h) | exact (fun _ _ _ h => absurd h.1 (by simp))) (by kernel_rfl) (by rfl) (by rintro w' ⟨⟨q0, q1, q2, q3⟩, q4, q5⟩; go_simp) (HS.out _ hbd) ?_; go_frame
  refine AnyT.takeD (i := 1) (v := .agg #[.int .i64 kind, .int .i64 row, .int .i64 pixel]) rfl rfl (by kernel_rfl) (by kernel_rfl) (by kernel_rfl) (by first | exact (fun _ _ _ h => h) | exact (fun _ _ _ h => absurd h.1 (by simp))) (by kernel_rfl) (by rfl) (by rintro w' ⟨⟨q0, q1, q2, q3⟩, q4, q5⟩; go_simp) (HS.out _ hbd) ?_; go_frame
  refine AnyT.takeD (i := 2) (v := .pointer (some ⟨W.heap.size, 0, none⟩)) rfl rfl (by kernel_rfl) (by kernel_rfl) (by kernel_rfl) (by first | exact (fun _ _ _ h => h) | exact (fun _ _ _ h => absurd h.1 (by simp))) (by kernel_rfl) (by rfl) (by rintro w' ⟨⟨q0, q1, q2, q3⟩, q4, q5⟩; go_simp) (HS.out _ hbd) ?_; go_frame
  refine AnyT.takeD (i := 3) (v := .slice sa sn sc) rfl rfl (by kernel_rfl) (by kernel_rfl) (by kernel_rfl) (by first | exact (fun _ _ _ h => h) | exact (fun _ _ _ h => absurd h.1 (by simp))) (by kernel_rfl) (by rfl) (by rintro w' ⟨⟨q0, q1, q2, q3⟩, q4, q5⟩; go_simp) (HS.out _ hbd) ?_; go_frame
  refine AnyT.takeD (i := 5) (v := .pointer (some ⟨W.heap.size, 1, none⟩)) rfl rfl (by kernel_rfl) (by kernel_rfl) (by kernel_rfl) (by first | exact (fun _ _ _ h => h) | exact (fun _ _ _ h => absurd h.1 (by simp))) (by kernel_rfl) (by rfl) (by rintro w' ⟨⟨q0, q1, q2, q3⟩, q4, q5⟩; go_simp) (HS.out _ hbd) ?_; go_frame
  refine AnyT.takeD (i := 6) (v := .slice ra rn rc) rfl rfl (by kernel_rfl) (by kernel_rfl) (by kernel_rfl) (by first | exact (fun _ _ _ h => h) | exact (fun _ _ _ h => absurd h.1 (by simp))) (by kernel_rfl) (by rfl) (by rintro w' ⟨⟨q0, q1, q2, q3⟩, q4, q5⟩; go_simp) (HS.out _ hbd) ?_; go_frame
  refine AnyT.next (i := 4) (by kernel_rfl) rfl (wpOp_of_list rfl ?_)
  go_wp2_with (go_at_call 44; refine (HRd.out _ hbd).mono ?_; rintro e w4 ⟨a4, c4, rfl, hA4, hbl4⟩; refine Stop.of ?_)
  refine Stop.go ?_
  have hw4 := chain hbd hbl4
  go_wp2
  refine ⟨fun _ => HS.out _ hw4, ?_⟩
  refine AnyT.next (i := 7) (by kernel_rfl) rfl (wpOp_of_list rfl ?_)
  go_wp2_with (go_at_call 68; refine (HEq.out _ hw4 _ _ hA4).mono ?_; rintro e w5 ⟨rfl, hbl5⟩; refine Stop.of ?_)
  refine Stop.go ?_
  have hw5 := chain hw4 hbl5
  go_wp2
  refine ⟨fun _ => HS.out _ hw5, ?_⟩
  refine AnyT.next (i := 8) (by kernel_rfl) rfl (wpOp_of_list rfl ?_)
  go_wp2
  refine ⟨fun _ => HS.out _ hw5, ?_⟩
  refine AnyT.next (i := 9) (by kernel_rfl) rfl (wpOp_of_list rfl ?_)
  go_wp2
  refine ⟨fun _ => HS.out _ hw5, ?_⟩
  refine AnyT.done (by kernel_rfl) ?_ _
  go_wp2
  go_ret
  exact ⟨rfl, chain HB0.out hw5⟩

theorem explains_c (w : World) (a : Option Addr) (n cap : Nat) (M : Mask) (hn : M.length = n) (H : RowsAt w a M) (hM : okM M = true) (f : Flt) (hf : okF M f = true) (a3 : Option Addr) (n3 cap3 : Nat) (t : List Tst) (hn3 : t.length = n3) (hm3 : n3 ≤ maxLen) (H3 : TestsAt w a3 t) (hok : ∀ x ∈ t, okTest M x = true) :
    Calls Tryz.prog 33 #[.slice a n cap, f.val, .slice a3 n3 cap3] w fun e w' => e = .returned (.bool (explainsF M f t)) ∧ Below w.heap.size w w' := by
  have hmf : ∀ (fn : Fn) (first cap : Array Value) (w : World), (Instr.makeFunc fn first cap).run Tryz.prog w = .ok (.func fn first cap) w := fun _ _ _ _ => rfl
  obtain ⟨w1, hw1⟩ : ∃ w1, w1 = w.alloc (.cells #[.slice a n cap] 23) := ⟨_, rfl⟩
  have hb1 : Below w.heap.size w w1 := by rw [hw1]; exact (Below.refl _ _).alloc (Nat.le_refl _) _
  obtain ⟨wf, hwf, hbf, hcells⟩ := fltBox w1 f
  have hs1 : w1.heap.size = w.heap.size + 1 := by rw [hw1]; simp
  have hbw := chain hb1 hbf
  obtain ⟨hsz, f0, f1, f2⟩ := hcells wf (Below.refl _ _)
  have hmc : wf.cell? ⟨w.heap.size, 0, none⟩ = some (.slice a n cap) := by
    rw [hbf.cell (p := ⟨w.heap.size, 0, none⟩) (by rw [hs1]; simp), hw1, World.cell?_alloc_at _ _ _ _ rfl]; rfl
  have HCt := hid (containsT wf a3 n3 cap3 t hn3 hm3 (H3.below hbw) 67 #[.pointer (some ⟨w.heap.size, 0, none⟩), .pointer (some ⟨w1.heap.size, 0, none⟩)] _ _ (enters_of Tryz.func67 (by kernel_rfl) rfl)
    (explains1 wf w.heap.size w1.heap.size a n cap M hn (H.below hbw) hM f hf (by omega) hmc hsz ⟨f0, f1, f2⟩) hok)
  have HE := hid (show explainsF M f t = !(t.any fun x => !decide (readF M f x.shown = x.read)) by
    unfold explainsF; rw [Bool.eq_iff_iff]; simp)
  obtain ⟨A, hA⟩ : ∃ A, A = t.any (fun x => !decide (readF M f x.shown = x.read)) := ⟨_, rfl⟩
  rw [← hA] at HCt HE
  rw [hs1] at HCt
  have HBW := hid hbw
  have HWF := hid (show wf = (w.alloc (.cells #[.slice a n cap] 23)).alloc (.cells #[.int .i64 f.kind, .int .i64 f.row, .int .i64 f.pixel] 25) by rw [hwf, hw1])
  clear hn H hf hn3 H3 hok hA hb1 hbf hcells hsz f0 f1 f2 hmc hbw hwf hw1 hs1 hM
  obtain ⟨kind, row, pixel⟩ := f
  simp only [Flt.val] at HWF ⊢
  go_enter Tryz.func33, Tryz.ntmps33
  go_wp2_with fail
  rw [← HWF.out]
  go_wp2_with (refine HCt.out.mono ?_; rintro e w1 ⟨rfl, hb1⟩)
  go_ret
  exact ⟨ret_bool (by rw [HE.out]), chain HBW.out hb1⟩

def explE (M : Mask) (f : Flt) (t : List Tst) : Int := if validF M f = true ∧ okTests M t = true then 0 else 1
def explB (M : Mask) (f : Flt) (t : List Tst) : Bool := decide (explE M f t = 0) && explainsF M f t
theorem okTests_ok {M : Mask} {t : List Tst} (h : okTests M t = true) : okM M = true ∧ t.length ≤ 12 ∧ ∀ x ∈ t, okTest M x = true := by
  unfold okTests at h
  simp only [Bool.and_eq_true, decide_eq_true_eq, List.all_eq_true] at h
  exact ⟨h.1.1, h.1.2, h.2⟩

set_option maxHeartbeats 1000000 in
theorem Explains_c (w : World) (a : Option Addr) (n cap : Nat) (M : Mask) (hn : M.length = n) (hm : n ≤ maxLen) (H : RowsAt w a M) (f : Flt) (a3 : Option Addr) (n3 cap3 : Nat) (t : List Tst) (hn3 : t.length = n3) (hm3 : n3 ≤ maxLen) (H3 : TestsAt w a3 t) :
    Calls Tryz.prog 9 #[.slice a n cap, f.val, .slice a3 n3 cap3] w fun e w' => e = .returned (.tuple #[.bool (explB M f t), .int .i64 (explE M f t)]) ∧ Below w.heap.size w w' := by
  obtain ⟨wf, hwf, hb0, hcells⟩ := fltBox w f
  have HV := hid (faultValid_c wf a n cap M hn hm (H.below hb0) f)
  have HT := hid (fun (W : World) (hb : Below wf.heap.size wf W) => faultValidTests_c W a n cap M hn hm (H.below (chain hb0 hb)) a3 n3 cap3 t hn3 hm3 (H3.below (chain hb0 hb)))
  have HX := hid (fun (h : validF M f = true) (h2 : okTests M t = true) (W : World) (hb : Below wf.heap.size wf W) => explains_c W a n cap M hn (H.below (chain hb0 hb)) (validF_ok h).1 f (validF_ok h).2 a3 n3 cap3 t hn3 hm3 (H3.below (chain hb0 hb)) (okTests_ok h2).2.2)
  have HC := hid hcells
  have HB0 := hid hb0
  obtain ⟨_, f0, f1, f2⟩ := hcells wf (Below.refl _ _)
  have HWF := hid hwf
  clear hn H hcells hb0 hwf hn3 H3
  cases h1 : validF M f
  · have HE := hid (show explE M f t = 1 ∧ explB M f t = false by unfold explB explE; rw [h1]; simp)
    rw [h1] at HV
    clear h1 HX
    obtain ⟨kind, row, pixel⟩ := f
    simp only [Flt.val] at HV HWF f0 f1 f2 ⊢
    have hw := HWF.out
    clear HWF
    subst hw
    go_enter Tryz.func9, Tryz.ntmps9
    go_wp2_with (go_at_call 31; refine HV.out.mono ?_; rintro e w1 ⟨rfl, hb1⟩)
    go_ret2
    exact ⟨by rw [HE.out.1, HE.out.2]; rfl, chain HB0.out hb1⟩
  cases h2 : okTests M t
  · have HE := hid (show explE M f t = 1 ∧ explB M f t = false by unfold explB explE; rw [h1, h2]; simp)
    rw [h1] at HV
    rw [h2] at HT
    clear h1 h2 HX
    obtain ⟨kind, row, pixel⟩ := f
    simp only [Flt.val] at HV HWF f0 f1 f2 ⊢
    have hw := HWF.out
    clear HWF
    subst hw
    go_enter Tryz.func9, Tryz.ntmps9
    go_wp2_with (first | (go_at_call 31; refine HV.out.mono ?_; rintro e w1 ⟨rfl, hb1⟩) | (go_at_call 32; refine (HT.out _ hb1).mono ?_; rintro e w2 ⟨rfl, hb2⟩))
    go_ret2
    exact ⟨by rw [HE.out.1, HE.out.2]; rfl, chain HB0.out (chain hb1 hb2)⟩
  have HE := hid (show explE M f t = 0 ∧ explB M f t = explainsF M f t by unfold explB explE; rw [h1, h2]; simp)
  have HX1 := hid (HX.out h1 h2)
  rw [h1] at HV
  rw [h2] at HT
  clear h1 h2 HX
  obtain ⟨D, hD⟩ : ∃ D, D = explainsF M f t := ⟨_, rfl⟩
  rw [← hD] at HX1 HE
  clear hD
  obtain ⟨kind, row, pixel⟩ := f
  simp only [Flt.val] at HV HWF HX1 HC f0 f1 f2 ⊢
  have hw := HWF.out
  clear HWF
  subst hw
  go_enter Tryz.func9, Tryz.ntmps9
  go_wp2_with (first | (go_at_call 31; refine HV.out.mono ?_; rintro e w1 ⟨rfl, hb1⟩) | (go_at_call 32; refine (HT.out _ hb1).mono ?_; rintro e w2 ⟨rfl, hb2⟩; refine Stop.of ?_))
  refine Stop.go ?_
  have hb12 := chain hb1 hb2
  obtain ⟨_, f0, f1, f2⟩ := HC.out w2 hb12
  go_wp2_with (go_at_call 33; refine (HX1.out _ hb12).mono ?_; rintro e w3 ⟨rfl, hb3⟩)
  go_ret2
  exact ⟨by rw [HE.out.1, HE.out.2]; rfl, chain HB0.out (chain hb12 hb3)⟩

def whichF (M : Mask) (t : List Tst) : List Flt := (allF M).filter (fun f => explainsF M f t)
theorem allF_pos {M : Mask} (hM : okM M = true) : 0 < (allF M).length := by
  have h : (⟨0, 0, 0⟩ : Flt) ∈ everyF M := by rw [everyF_list hM]; unfold listF; simp
  obtain ⟨g, hg, _⟩ := allTo_has (M := M) h
  exact List.length_pos_of_mem hg

theorem which1 (w : World) (S : Nat → Prop) (N : Nat) (w0 : World) (hN : N ≤ w0.heap.size) (hw : Below N w0 w) (hS : ∀ k, k < N → S k) (mb tb : Nat) (a : Option Addr) (n cap : Nat) (M : Mask) (hn : M.length = n) (H : ∀ W, Below N w0 W → RowsAt W a M) (hM : okM M = true)
    (a3 : Option Addr) (n3 cap3 : Nat) (t : List Tst) (hn3 : t.length = n3) (hm3 : n3 ≤ maxLen) (H3 : ∀ W, Below N w0 W → TestsAt W a3 t) (hok : ∀ x ∈ t, okTest M x = true)
    (hmb : mb < N) (hmc : w0.cell? ⟨mb, 0, none⟩ = some (.slice a n cap)) (htb : tb < N) (htc : w0.cell? ⟨tb, 0, none⟩ = some (.slice a3 n3 cap3)) :
    PredF Tryz.prog 73 #[.pointer (some ⟨mb, 0, none⟩), .pointer (some ⟨tb, 0, none⟩)] S w (fun f => okF M f = true) (fun f => !explainsF M f t) := by
  intro f W hf hk
  have hbW : Below N w0 W := hk.below hw (Nat.le_trans hN hw.size) hS
  have d0 : W.cell? ⟨mb, 0, none⟩ = some (.slice a n cap) := (hbW.cell (p := ⟨mb, 0, none⟩) hmb).trans hmc
  have d1 : W.cell? ⟨tb, 0, none⟩ = some (.slice a3 n3 cap3) := (hbW.cell (p := ⟨tb, 0, none⟩) htb).trans htc
  have hz0 : mb < W.heap.size := by have := hbW.size; omega
  have hz1 : tb < W.heap.size := by have := hbW.size; omega
  obtain ⟨wf, hwf, hb0, hcells⟩ := fltBox W f
  have hbf : Below N w0 wf := hbW.trans (hb0.mono (Nat.le_trans hN hbW.size))
  have HX := hid (explains_c wf a n cap M hn (H wf hbf) hM f hf a3 n3 cap3 t hn3 hm3 (H3 wf hbf) hok)
  have c0 : wf.cell? ⟨mb, 0, none⟩ = some (.slice a n cap) := (hbf.cell (p := ⟨mb, 0, none⟩) hmb).trans hmc
  have c1 : wf.cell? ⟨tb, 0, none⟩ = some (.slice a3 n3 cap3) := (hbf.cell (p := ⟨tb, 0, none⟩) htb).trans htc
  obtain ⟨_, f0, f1, f2⟩ := hcells wf (Below.refl _ _)
  have HB0 := hid hb0
  have HWF := hid hwf
  clear hn H hM hf hn3 H3 hok hmc htc hcells hb0 hbf hbW hk hS hw hwf
  obtain ⟨D, hD⟩ : ∃ D, D = explainsF M f t := ⟨_, rfl⟩
  show Calls _ _ _ W fun e W' => e = Ending.returned (.bool (!explainsF M f t)) ∧ Below W.heap.size W W'
  rw [← hD] at HX ⊢
  clear hD
  obtain ⟨kind, row, pixel⟩ := f
  simp only [Flt.val] at HX HWF ⊢
  simp only [] at f0 f1 f2
  have hw := HWF.out
  clear HWF
  subst hw
  go_enter Tryz.func73, Tryz.ntmps73
  go_wp2_with (go_at_call 33; refine HX.out.mono ?_; rintro e w1 ⟨rfl, hb1⟩)
  go_ret
  exact ⟨rfl, chain HB0.out hb1⟩

set_option maxHeartbeats 1000000 in
theorem which_c (w : World) (a : Option Addr) (n cap : Nat) (M : Mask) (hn : M.length = n) (H : RowsAt w a M) (hM : okM M = true) (a3 : Option Addr) (n3 cap3 : Nat) (t : List Tst) (hn3 : t.length = n3) (hm3 : n3 ≤ maxLen) (H3 : TestsAt w a3 t) (hok : ∀ x ∈ t, okTest M x = true) :
    Calls Tryz.prog 37 #[.slice a n cap, .slice a3 n3 cap3] w fun e w' => ∃ v base, e = .returned v ∧ w.heap.size ≤ base ∧ FltsO w' base v (whichF M t) ∧ Below w.heap.size w w' := by
  have hmf : ∀ (fn : Fn) (first cap : Array Value) (w : World), (Instr.makeFunc fn first cap).run Tryz.prog w = .ok (.func fn first cap) w := fun _ _ _ _ => rfl
  obtain ⟨wt, hwt⟩ : ∃ wt, wt = (w.alloc (.cells #[.slice a n cap] 23)).alloc (.cells #[.slice a3 n3 cap3] 26) := ⟨_, rfl⟩
  have hb0 : Below w.heap.size w wt := by rw [hwt]; exact ((Below.refl _ _).alloc (Nat.le_refl _) _).alloc (by simp) _
  have hst : wt.heap.size = w.heap.size + 2 := by rw [hwt]; simp
  have hmc : wt.cell? ⟨w.heap.size, 0, none⟩ = some (.slice a n cap) := by rw [hwt, World.cell?_alloc_lt _ _ _ (show w.heap.size < (w.alloc _).heap.size by simp), World.cell?_alloc_at _ _ _ _ rfl]; rfl
  have htc : wt.cell? ⟨w.heap.size + 1, 0, none⟩ = some (.slice a3 n3 cap3) := by
    rw [hwt, World.cell?_alloc_at _ _ _ _ (by simp)]; rfl
  have HA := hid (all_c wt a n cap M hn (H.below hb0) hM)
  have HDel := hid (fun (w1 : World) (hb1 : Below wt.heap.size wt w1) (v : Value) (base : Nat) (hbase : wt.heap.size ≤ base) (hF : FltsO w1 base v (allF M)) => show ∃ va vc, v = .slice va (allF M).length vc ∧ Calls Tryz.prog 72 #[.slice va (allF M).length vc, .func (.func 73) #[] #[.pointer (some ⟨w.heap.size, 0, none⟩), .pointer (some ⟨w.heap.size + 1, 0, none⟩)]] w1 fun e w' => ∃ v', e = .returned v' ∧ FltsO w' base v' (whichF M t) ∧ Below w.heap.size w w' from by
    have hpos := allF_pos hM
    rcases hF.2 with ⟨rfl, h0⟩ | ⟨g, vc, cur, rfl, hbg, hgg, hnc, hcm, hsz, htk⟩
    · omega
    · refine ⟨_, _, rfl, ?_⟩
      have h1 := deleteF w1 base g (allF M).length vc cur (allF M) rfl (by have := all_240 hM; omega) hgg hnc hcm hsz htk hbg 73 #[.pointer (some ⟨w.heap.size, 0, none⟩), .pointer (some ⟨w.heap.size + 1, 0, none⟩)] (fun f => okF M f = true) (fun f => !explainsF M f t)
        (enters_of Tryz.func73 (by kernel_rfl) rfl)
        (which1 w1 (fun k => k ≠ g) wt.heap.size wt (Nat.le_refl _) hb1 (fun k hk => by omega) w.heap.size (w.heap.size + 1) a n cap M hn (fun W hb => H.below (chain hb0 hb)) hM a3 n3 cap3 t hn3 hm3 (fun W hb => H3.below (chain hb0 hb)) hok (by omega) hmc (by omega) htc)
        (fun f hf => all_ok hf)
      refine h1.mono fun e w' ⟨v', he, hF', hk⟩ => ⟨v', he, ?_, ?_⟩
      · have e2 : whichF M t = (allF M).filter (fun x => !(!explainsF M x t)) := by unfold whichF; simp
        rw [e2]; exact hF'
      · exact chain hb0 (hk.below hb1 hb1.size (fun k hk => by omega)))
  have HWT := hid hwt
  have HB0 := hid hb0
  clear hn H hM hn3 H3 hok hmc htc hst hb0 hwt
  go_enter Tryz.func37, Tryz.ntmps37
  go_wp2_with fail
  rw [← HWT.out]
  go_wp2_with (go_at_call 63; refine HA.out.mono ?_; rintro e w1 ⟨v, base, rfl, hbase, hF, hb1⟩; refine Stop.of ?_)
  refine Stop.go ?_
  obtain ⟨va, vc, rfl, hD⟩ := HDel.out w1 hb1 v base hbase hF
  have HDD := hid hD
  clear hD hF HDel
  go_wp2_with (go_at_call 72; refine HDD.out.mono ?_; rintro e w2 ⟨v2, rfl, hF2, hb2⟩)
  go_ret
  exact ⟨v2, base, rfl, Nat.le_trans HB0.out.size hbase, hF2, hb2⟩

def whichE (M : Mask) (t : List Tst) : Int := if okTests M t = true then 0 else 1
def whichL (M : Mask) (t : List Tst) : List Flt := if okTests M t = true then whichF M t else []
theorem Which_c (w : World) (a : Option Addr) (n cap : Nat) (M : Mask) (hn : M.length = n) (hm : n ≤ maxLen) (H : RowsAt w a M) (a3 : Option Addr) (n3 cap3 : Nat) (t : List Tst) (hn3 : t.length = n3) (hm3 : n3 ≤ maxLen) (H3 : TestsAt w a3 t) :
    Calls Tryz.prog 11 #[.slice a n cap, .slice a3 n3 cap3] w fun e w' => ∃ v base, e = .returned (.tuple #[v, .int .i64 (whichE M t)]) ∧ w.heap.size ≤ base ∧ FltsO w' base v (whichL M t) ∧ Below w.heap.size w w' := by
  have HT := hid (faultValidTests_c w a n cap M hn hm H a3 n3 cap3 t hn3 hm3 H3)
  have HX := hid (fun (h : okTests M t = true) (W : World) (hb : Below w.heap.size w W) => which_c W a n cap M hn (H.below hb) (okTests_ok h).1 a3 n3 cap3 t hn3 hm3 (H3.below hb) (okTests_ok h).2.2)
  clear hn H hn3 H3
  cases h2 : okTests M t
  · have HE := hid (show whichE M t = 1 ∧ whichL M t = [] by unfold whichE whichL; rw [h2]; simp)
    rw [h2] at HT
    clear h2 HX
    go_enter Tryz.func11, Tryz.ntmps11
    go_wp2_with (go_at_call 32; refine HT.out.mono ?_; rintro e w2 ⟨rfl, hb2⟩)
    go_ret2
    refine ⟨.slice none 0 0, w2.heap.size, by rw [HE.out.1]; rfl, hb2.size, ?_, hb2⟩
    rw [HE.out.2]
    exact FltsO.nil _ _
  · have HE := hid (show whichE M t = 0 ∧ whichL M t = whichF M t by unfold whichE whichL; rw [h2]; simp)
    rw [h2] at HT
    have HX1 := hid (HX.out h2)
    clear h2 HX
    go_enter Tryz.func11, Tryz.ntmps11
    go_wp2_with (first | (go_at_call 32; refine HT.out.mono ?_; rintro e w2 ⟨rfl, hb2⟩) | (go_at_call 37; refine (HX1.out _ hb2).mono ?_; rintro e w3 ⟨v, base, rfl, hbase, hF, hb3⟩))
    go_ret2
    refine ⟨v, base, by rw [HE.out.1]; rfl, Nat.le_trans hb2.size hbase, ?_, chain hb2 hb3⟩
    rw [HE.out.2]
    exact hF
end Go.Proofs.YthaampmdponhbaaGreatDoor

namespace Go.Proofs.YthaampmdponhbaaGreatDoor
open Go.RowKit
set_option linter.unusedVariables false

theorem info_test : (Tryz.prog.info? 29).map (fun i => (i.zero, i.size, i.bytes)) = some (some (.agg #[.slice none 0 0, .slice none 0 0]), 2, 48) := by kernel_rfl

def TestsO (W : World) (base : Nat) (v : Value) (T : List Tst) : Prop :=
  ∃ xs, W.ownsRow base 29 2 v T.length xs ∧ ∀ j (hj : j < T.length), ∃ us ur, xs[j * 2]? = some us ∧ xs[j * 2 + 1]? = some ur ∧ ElemI 3 W base (fun _ => True) us T[j].shown ∧ ElemI 3 W base (fun _ => True) ur T[j].read
theorem TestsO.nil (W : World) (base : Nat) : TestsO W base (.slice none 0 0) [] := ⟨[], World.ownsRow_nil _ _ _ _, fun j hj => by simp at hj⟩
theorem TestsO.below {W W' : World} {base : Nat} {v : Value} {T : List Tst} (h : TestsO W base v T) (hb : Below W.heap.size W W') : TestsO W' base v T := by
  obtain ⟨xs, ho, he⟩ := h
  refine ⟨xs, own_below ho hb, fun j hj => ?_⟩
  obtain ⟨us, ur, h1, h2, h3, h4⟩ := he j hj
  exact ⟨us, ur, h1, h2, h3.keep (Keep.of_below hb : Keep (fun _ => True) _ _) (fun _ _ _ _ => trivial), h4.keep (Keep.of_below hb : Keep (fun _ => True) _ _) (fun _ _ _ _ => trivial)⟩
theorem TestsO.slice {W : World} {base : Nat} {v : Value} {T : List Tst} (h : TestsO W base v T) : ∃ a c, v = .slice a T.length c := by
  obtain ⟨xs, ho, _⟩ := h; exact ownsRow_slice ho
theorem TestsO.reads {W : World} {base : Nat} {v : Value} {T : List Tst} (h : TestsO W base v T) : ∃ a cap, v = .slice a T.length cap ∧ T.length ≤ maxLen ∧ TestsAt W a T := by
  obtain ⟨xs, ho, he⟩ := h
  rcases ho.2 with ⟨rfl, h0⟩ | ⟨g, cap, cur, rfl, hbg, hgg, hnc, hcm, hsz, htk⟩
  · exact ⟨none, 0, by rw [h0], by rw [h0]; decide, fun j hj => by omega⟩
  · refine ⟨_, cap, rfl, by omega, fun j hj => ?_⟩
    obtain ⟨us, ur, h1, h2, h3, h4⟩ := he j hj
    have hc : ∀ i, i < T.length * 2 → W.cell? ⟨g, i, none⟩ = xs[i]? := fun i hi =>
      World.ownsRow.cellAt (w := W) (base := base) (e := 29) (size := 2) (g := g) (n := T.length) (cap := cap) (xs := xs) ⟨ho.1, .inr ⟨g, cap, cur, rfl, hbg, hgg, hnc, hcm, hsz, htk⟩⟩ i hi
    obtain ⟨sa, sn, sc, rfl, _⟩ := id h3
    obtain ⟨ra, rn, rc, rfl, _⟩ := id h4
    obtain ⟨k1, k2, k3⟩ := h3.ints
    obtain ⟨m1, m2, m3⟩ := h4.ints
    exact ⟨g, 0, sa, sn, sc, ra, rn, rc, rfl, (Array.getElem?_eq_some_iff.1 hgg).1, by rw [Nat.zero_add, hc _ (by omega)]; exact h1, by rw [Nat.zero_add, hc _ (by omega)]; exact h2, k1, k2, k3, m1, m2, m3⟩
theorem TestsO.snoc {W w1 w2 : World} {base : Nat} {v v' us ur : Value} {T : List Tst} {t : Tst} {xs : List Value}
    (ho : W.ownsRow base 29 2 v T.length xs) (he : ∀ j (hj : j < T.length), ∃ us ur, xs[j * 2]? = some us ∧ xs[j * 2 + 1]? = some ur ∧ ElemI 3 W base (fun _ => True) us T[j].shown ∧ ElemI 3 W base (fun _ => True) ur T[j].read)
    (h1 : ElemI 3 W base (fun _ => True) us t.shown) (h2 : ElemI 3 W base (fun _ => True) ur t.read)
    (hW1 : Below W.heap.size W w1) (hg : w1.grownBy w2 v.ownBlock) (ho' : w2.ownsRow base 29 2 v' (T.length + 1) (xs ++ [us, ur])) : TestsO w2 base v' (T ++ [t]) := by
  have hlen : xs.length = T.length * 2 := ho.1
  have hgb : ∀ b, (b < base ∨ ∃ c f, W.heap[b]? = some (.cells c 3 f)) → b < W.heap.size → w2.heap[b]? = W.heap[b]? := by
    intro b hty hb
    refine (hg.block b (Nat.lt_of_lt_of_le hb hW1.size) ?_).trans (hW1.block b hb)
    rcases ho.2 with ⟨rfl, _⟩ | ⟨g, cap, cur, rfl, hbg, hgg, _⟩
    · simp [Value.ownBlock]
    · intro e
      obtain rfl : b = g := by simpa [Value.ownBlock] using e
      rcases hty with h | ⟨c, f, h⟩
      · omega
      · rw [h] at hgg; cases hgg
  have hel : ∀ u l, ElemI 3 W base (fun _ => True) u l → ElemI 3 w2 base (fun _ => True) u l := by
    intro u l h
    refine h.keep (T := fun b => b < W.heap.size ∧ (b < base ∨ ∃ c f, W.heap[b]? = some (.cells c 3 f))) ⟨hg.os.trans hW1.os, hg.tape.trans hW1.tape, hg.output.trans hW1.output, Nat.le_trans hW1.size hg.size, fun k hk hT => hgb k hT.2 hk⟩ fun b _ hb hty => ⟨hb, hty⟩
  refine ⟨xs ++ [us, ur], by rw [List.length_append]; exact ho', fun j hj => ?_⟩
  by_cases e : j < T.length
  · obtain ⟨us', ur', k1, k2, k3, k4⟩ := he j e
    refine ⟨us', ur', by rw [List.getElem?_append_left (by omega)]; exact k1, by rw [List.getElem?_append_left (by omega)]; exact k2, ?_, ?_⟩
    · rw [List.getElem_append_left e]; exact hel _ _ k3
    · rw [List.getElem_append_left e]; exact hel _ _ k4
  · have : j = T.length := by simp at hj; omega
    subst this
    refine ⟨us, ur, by rw [List.getElem?_append_right (by omega), hlen]; simp, by rw [List.getElem?_append_right (by omega), hlen, show T.length * 2 + 1 - T.length * 2 = 1 by omega]; rfl, ?_, ?_⟩
    · simp only [List.getElem_append_right (Nat.le_refl _), Nat.sub_self, List.getElem_cons_zero]; exact hel _ _ h1
    · simp only [List.getElem_append_right (Nat.le_refl _), Nat.sub_self, List.getElem_cons_zero]; exact hel _ _ h2

theorem mem_every {M : Mask} (hM : okM M = true) {f : Flt} (hf : okF M f = true) : f ∈ everyF M := by
  obtain ⟨kind, row, pixel⟩ := f
  rw [everyF_list hM]
  unfold listF
  simp only [List.mem_append, List.mem_singleton, List.mem_map, List.mem_range, List.mem_flatMap]
  obtain ⟨m1, m6, c1, c10, hrows⟩ := okM_len hM
  rcases okF_cases hf hM with ⟨rfl, rfl, rfl⟩ | ⟨rfl, i0, rfl, hi0, rfl⟩ | ⟨rfl, j0, rfl, hj0, rfl⟩ | ⟨rfl, i0, j0, rfl, rfl, hi0, hj0, hne⟩
  · exact .inl (.inl (.inl rfl))
  · exact .inl (.inl (.inr ⟨i0, hi0, rfl⟩))
  · exact .inl (.inr ⟨j0, hj0, rfl⟩)
  · refine .inr ⟨i0, hi0, ?_⟩
    have hl := (hrows M[i0] (List.getElem_mem hi0)).1
    unfold turnsF
    rw [List.getElem?_eq_getElem hi0]
    simp only [Option.getD_some, List.mem_map, List.mem_filter, List.mem_range]
    refine ⟨j0, ⟨by omega, ?_⟩, rfl⟩
    unfold atM at hne
    simp only [Int.toNat_natCast, List.getElem?_eq_getElem hi0, Option.getD_some] at hne
    simpa using hne

theorem own_which {M : Mask} {f : Flt} {L : List (List Int)} (hv : validF M f = true) : explainsF M f (L.map (fun x => ⟨x, readF M f x⟩)) = true ∧ ∃ g ∈ whichF M (L.map (fun x => ⟨x, readF M f x⟩)), oneE M f g = 0 ∧ oneB M f g = true := by
  obtain ⟨hM, hf⟩ := validF_ok hv
  have h1 : ∀ g, faultyM M g = faultyM M f → explainsF M g (L.map (fun x => ⟨x, readF M f x⟩)) = true := by
    intro g hg
    unfold explainsF
    rw [List.all_eq_true]
    intro t ht
    obtain ⟨x, _, rfl⟩ := List.mem_map.1 ht
    simp [readF, hg]
  refine ⟨h1 f rfl, ?_⟩
  obtain ⟨g, hg, e⟩ := allTo_has (M := M) (mem_every hM hf)
  have hgv : validF M g = true := by unfold validF; rw [hM, all_ok hg]; rfl
  have he : oneE M f g = 0 := by unfold oneE; rw [if_pos ⟨hv, hgv⟩]
  refine ⟨g, ?_, he, ?_⟩
  · unfold whichF
    exact List.mem_filter.2 ⟨hg, h1 g e⟩
  · unfold oneB; rw [he, e]; simp
end Go.Proofs.YthaampmdponhbaaGreatDoor

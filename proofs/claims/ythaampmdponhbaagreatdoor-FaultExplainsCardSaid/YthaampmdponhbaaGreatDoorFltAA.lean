/- Walks of both packages: one, One. -/
import Derived.Test.YthaampmdponhbaaGreatDoorFltZ
namespace Go.Proofs.YthaampmdponhbaaGreatDoor
open Go.RowKit
set_option linter.unusedVariables false

theorem bytes_beq (s t : ByteArray) : (s == t) = decide (s = t) := by
  obtain ⟨a⟩ := s
  obtain ⟨b⟩ := t
  show (a == b) = _
  rw [Bool.eq_iff_iff]; simp

/-- two faults in two boxes -/
theorem fltBox2 (w : World) (f g : Flt) : ∃ wg, wg = (w.alloc (.cells #[.int .i64 f.kind, .int .i64 f.row, .int .i64 f.pixel] 25)).alloc (.cells #[.int .i64 g.kind, .int .i64 g.row, .int .i64 g.pixel] 25) ∧ Below w.heap.size w wg ∧
    (∀ W, Below wg.heap.size wg W → (W.cell? ⟨w.heap.size, 0, none⟩ = some (.int .i64 f.kind) ∧ W.cell? ⟨w.heap.size, 1, none⟩ = some (.int .i64 f.row) ∧ W.cell? ⟨w.heap.size, 2, none⟩ = some (.int .i64 f.pixel)) ∧ W.cell? ⟨w.heap.size + 1, 0, none⟩ = some (.int .i64 g.kind) ∧ W.cell? ⟨w.heap.size + 1, 1, none⟩ = some (.int .i64 g.row) ∧ W.cell? ⟨w.heap.size + 1, 2, none⟩ = some (.int .i64 g.pixel)) := by
  obtain ⟨wf, hwf, hb0, hc0⟩ := fltBox w f
  obtain ⟨wg, hwg, hb1, hc1⟩ := fltBox wf g
  have hs : wf.heap.size = w.heap.size + 1 := by rw [hwf]; simp
  rw [hs] at hc1
  refine ⟨wg, by rw [hwg, hwf], chain hb0 hb1, fun W hb => ⟨(hc0 W (chain hb1 hb)).2, (hc1 W hb).2⟩⟩

set_option maxHeartbeats 1000000 in
theorem fone_c (w : World) (a : Option Addr) (n cap : Nat) (M : Mask) (hn : M.length = n) (H : RowsAt w a M) (hM : okM M = true) (f g : Flt) (hf : okF M f = true) (hg : okF M g = true) (D : Bool) (hD : D = decide (faultyM M f = faultyM M g)) :
    Calls Tryz.prog 49 #[.slice a n cap, f.val, g.val] w fun e w' => e = .returned (.bool D) ∧ Below w.heap.size w w' := by
  obtain ⟨wg, hwg, hb0, hcells⟩ := fltBox2 w f g
  have hm : n ≤ maxLen := by have := (okM_len hM).2.1; unfold maxLen; omega
  have HF := hid (fun (W : World) (hb : Below wg.heap.size wg W) => faulty_v W a n cap M hn (H.below (chain hb0 hb)) hM f hf)
  have HG := hid (fun (W : World) (hb : Below wg.heap.size wg W) => faulty_v W a n cap M hn (H.below (chain hb0 hb)) hM g hg)
  have HFm := hid (fun (h : Flt) (hh : okF M h = true) (W : World) (va : Option Addr) (vc : Nat) (hv : RowsAt W va (faultyM M h)) => maskFormat_c W va n vc (faultyM M h) (by rw [faultyM_row, hn]) hm hv)
  have HF1 := hid (HFm.out f hf)
  have HG1 := hid (HFm.out g hg)
  obtain ⟨s, hs⟩ : ∃ s : ByteArray, s = ⟨(textM (faultyM M f)).toArray⟩ := ⟨_, rfl⟩
  obtain ⟨t, ht⟩ : ∃ t : ByteArray, t = ⟨(textM (faultyM M g)).toArray⟩ := ⟨_, rfl⟩
  rw [← hs] at HF1
  rw [← ht] at HG1
  have hst : (s.toList == t.toList) = D := by
    rw [← beq_toListBytes, hD, bytes_beq, Bool.eq_iff_iff]
    simp only [decide_eq_true_eq]
    constructor
    · intro e
      rw [hs, ht] at e
      have e2 : textM (faultyM M f) = textM (faultyM M g) := by simpa using e
      exact textM_inj (okM_faulty hM hf).1 (okM_faulty hM hg).1 e2
    · intro e; rw [hs, ht, e]
  have HC := hid hcells
  have HB0 := hid hb0
  have HWG := hid hwg
  clear hn H hM hf hg hD HFm hs ht hcells hb0 hwg hm
  obtain ⟨kind, row, pixel⟩ := f
  obtain ⟨gk, gr, gp⟩ := g
  simp only [Flt.val] at HF HG HC HWG ⊢
  have hw := HWG.out
  go_enter Tryz.func49, Tryz.ntmps49
  go_wp2
  rw [← hw]
  clear hw
  refine plain_region (fun j W => (fun _ : Nat => true) j = true → ((W.cell? ⟨w.heap.size, 0, none⟩ = some (.int .i64 kind) ∧ W.cell? ⟨w.heap.size, 1, none⟩ = some (.int .i64 row) ∧ W.cell? ⟨w.heap.size, 2, none⟩ = some (.int .i64 pixel)) ∧ W.cell? ⟨w.heap.size + 1, 0, none⟩ = some (.int .i64 gk) ∧ W.cell? ⟨w.heap.size + 1, 1, none⟩ = some (.int .i64 gr) ∧ W.cell? ⟨w.heap.size + 1, 2, none⟩ = some (.int .i64 gp))) (by kernel_rfl) ?_
  have hbd : Below wg.heap.size wg wg.drew := (Below.refl _ _).drew
  generalize wg.drew = wd at hbd ⊢
  refine AnyT.takeW (i := 0) (v := .slice a n cap) rfl (by kernel_rfl) (by kernel_rfl) (by kernel_rfl) (by first | exact (fun _ _ _ h => h) | exact (fun _ _ _ h => absurd h.1 (by simp))) (by kernel_rfl) (by rfl) (by rintro w' hw'; go_simp) (HC.out _ hbd) ?_
  refine AnyT.takeW (i := 1) (v := .agg #[.int .i64 kind, .int .i64 row, .int .i64 pixel]) rfl (by kernel_rfl) (by kernel_rfl) (by kernel_rfl) (by first | exact (fun _ _ _ h => h) | exact (fun _ _ _ h => absurd h.1 (by simp))) (by kernel_rfl) (by rfl) (by rintro w' ⟨⟨q0, q1, q2⟩, q3, q4, q5⟩; go_simp) (HC.out _ hbd) ?_
  refine AnyT.takeW (i := 4) (v := .slice a n cap) rfl (by kernel_rfl) (by kernel_rfl) (by kernel_rfl) (by first | exact (fun _ _ _ h => h) | exact (fun _ _ _ h => absurd h.1 (by simp))) (by kernel_rfl) (by rfl) (by rintro w' hw'; go_simp) (HC.out _ hbd) ?_
  refine AnyT.takeW (i := 5) (v := .agg #[.int .i64 gk, .int .i64 gr, .int .i64 gp]) rfl (by kernel_rfl) (by kernel_rfl) (by kernel_rfl) (by first | exact (fun _ _ _ h => h) | exact (fun _ _ _ h => absurd h.1 (by simp))) (by kernel_rfl) (by rfl) (by rintro w' ⟨⟨q0, q1, q2⟩, q3, q4, q5⟩; go_simp) (HC.out _ hbd) ?_
  refine AnyT.next (i := 2) (by kernel_rfl) rfl (wpOp_of_list rfl ?_)
  go_wp2_with (go_at_call 80; refine (HF.out _ hbd).mono ?_; rintro e w4 ⟨a4, c4, rfl, hA4, hbl4⟩; refine Stop.of ?_)
  refine Stop.go ?_
  have hw4 := chain hbd hbl4
  go_wp2
  refine ⟨fun _ => HC.out _ hw4, ?_⟩
  refine AnyT.next (i := 3) (by kernel_rfl) rfl (wpOp_of_list rfl ?_)
  go_wp2_with (go_at_call 82; refine (HF1.out w4 a4 c4 hA4).mono ?_; rintro e w5 ⟨rfl, hbl5⟩; refine Stop.of ?_)
  refine Stop.go ?_
  have hw5 := chain hw4 hbl5
  go_wp2
  refine ⟨fun _ => HC.out _ hw5, ?_⟩
  refine AnyT.next (i := 6) (by kernel_rfl) rfl (wpOp_of_list rfl ?_)
  go_wp2_with (go_at_call 80; refine (HG.out _ hw5).mono ?_; rintro e w6 ⟨a6, c6, rfl, hA6, hbl6⟩; refine Stop.of ?_)
  refine Stop.go ?_
  have hw6 := chain hw5 hbl6
  go_wp2
  refine ⟨fun _ => HC.out _ hw6, ?_⟩
  refine AnyT.next (i := 7) (by kernel_rfl) rfl (wpOp_of_list rfl ?_)
  go_wp2_with (go_at_call 82; refine (HG1.out w6 a6 c6 hA6).mono ?_; rintro e w7 ⟨rfl, hbl7⟩; refine Stop.of ?_)
  refine Stop.go ?_
  have hw7 := chain hw6 hbl7
  go_wp2
  refine ⟨fun _ => HC.out _ hw7, ?_⟩
  refine AnyT.next (i := 8) (by kernel_rfl) rfl (wpOp_of_list rfl ?_)
  go_wp2
  refine ⟨fun _ => HC.out _ hw7, ?_⟩
  refine AnyT.next (i := 9) (by kernel_rfl) rfl (wpOp_of_list rfl ?_)
  go_wp2
  refine ⟨fun _ => HC.out _ hw7, ?_⟩
  refine AnyT.done (by kernel_rfl) ?_ _
  go_wp2
  go_ret
  exact ⟨rfl, chain HB0.out hw7⟩

set_option maxHeartbeats 1000000 in
theorem One_c (w : World) (a : Option Addr) (n cap : Nat) (M : Mask) (hn : M.length = n) (hm : n ≤ maxLen) (H : RowsAt w a M) (f g : Flt) :
    Calls Tryz.prog 25 #[.slice a n cap, f.val, g.val] w fun e w' => e = .returned (.tuple #[.bool (oneB M f g), .int .i64 (oneE M f g)]) ∧ Below w.heap.size w w' := by
  obtain ⟨wg, hwg, hb0, hcells⟩ := fltBox2 w f g
  have HF := hid (fun (W : World) (hb : Below wg.heap.size wg W) => faultValid_c W a n cap M hn hm (H.below (chain hb0 hb)) f)
  have HG := hid (fun (W : World) (hb : Below wg.heap.size wg W) => faultValid_c W a n cap M hn hm (H.below (chain hb0 hb)) g)
  have HO := hid (fun (h1 : validF M f = true) (h2 : validF M g = true) (W : World) (hb : Below wg.heap.size wg W) => fone_c W a n cap M hn (H.below (chain hb0 hb)) (validF_ok h1).1 f g (validF_ok h1).2 (validF_ok h2).2 _ rfl)
  have HC := hid hcells
  have HB0 := hid hb0
  have HWG := hid hwg
  have hcs := hcells wg (Below.refl _ _)
  clear hn H hcells hb0 hwg hm
  obtain ⟨⟨f0, f1, f2⟩, f3, f4, f5⟩ := hcs
  cases h1 : validF M f
  · have HE := hid (show oneE M f g = 1 ∧ oneB M f g = false by unfold oneB oneE; rw [h1]; simp)
    rw [h1] at HF
    clear h1 HO
    obtain ⟨kind, row, pixel⟩ := f
    obtain ⟨gk, gr, gp⟩ := g
    simp only [Flt.val] at HF HG HC HWG f0 f1 f2 f3 f4 f5 ⊢
    have hw := HWG.out
    clear HWG
    subst hw
    go_enter Tryz.func25, Tryz.ntmps25
    go_wp2_with (go_at_call 31; refine (HF.out _ (Below.refl _ _)).mono ?_; rintro e w1 ⟨rfl, hb1⟩)
    go_ret2
    exact ⟨by rw [HE.out.1, HE.out.2]; rfl, chain HB0.out hb1⟩
  · cases h2 : validF M g
    · have HE := hid (show oneE M f g = 1 ∧ oneB M f g = false by unfold oneB oneE; rw [h1, h2]; simp)
      rw [h1] at HF
      rw [h2] at HG
      clear h1 h2 HO
      obtain ⟨kind, row, pixel⟩ := f
      obtain ⟨gk, gr, gp⟩ := g
      simp only [Flt.val] at HF HG HC HWG f0 f1 f2 f3 f4 f5 ⊢
      have hw := HWG.out
      clear HWG
      subst hw
      go_enter Tryz.func25, Tryz.ntmps25
      go_wp2_with (go_at_call 31; refine (HF.out _ (Below.refl _ _)).mono ?_; rintro e w1 ⟨rfl, hb1⟩; refine Stop.of ?_)
      refine Stop.go ?_
      obtain ⟨⟨f0, f1, f2⟩, f3, f4, f5⟩ := HC.out w1 hb1
      go_wp2_with (go_at_call 31; refine (HG.out _ hb1).mono ?_; rintro e w2 ⟨rfl, hb2⟩)
      go_ret2
      exact ⟨by rw [HE.out.1, HE.out.2]; rfl, chain HB0.out (chain hb1 hb2)⟩
    · have HE := hid (show oneE M f g = 0 ∧ oneB M f g = decide (faultyM M f = faultyM M g) by unfold oneB oneE; rw [h1, h2]; simp)
      rw [h1] at HF
      rw [h2] at HG
      have HO1 := hid (HO.out h1 h2)
      obtain ⟨D, hD⟩ : ∃ D, D = decide (faultyM M f = faultyM M g) := ⟨_, rfl⟩
      rw [← hD] at HO1 HE
      clear h1 h2 HO hD
      obtain ⟨kind, row, pixel⟩ := f
      obtain ⟨gk, gr, gp⟩ := g
      simp only [Flt.val] at HF HG HC HWG HO1 f0 f1 f2 f3 f4 f5 ⊢
      have hw := HWG.out
      clear HWG
      subst hw
      go_enter Tryz.func25, Tryz.ntmps25
      go_wp2_with (go_at_call 31; refine (HF.out _ (Below.refl _ _)).mono ?_; rintro e w1 ⟨rfl, hb1⟩; refine Stop.of ?_)
      refine Stop.go ?_
      obtain ⟨⟨f0, f1, f2⟩, f3, f4, f5⟩ := HC.out w1 hb1
      go_wp2_with (go_at_call 31; refine (HG.out _ hb1).mono ?_; rintro e w2 ⟨rfl, hb2⟩; refine Stop.of ?_)
      refine Stop.go ?_
      have hb12 := chain hb1 hb2
      obtain ⟨⟨f0, f1, f2⟩, f3, f4, f5⟩ := HC.out w2 hb12
      go_wp2_with (go_at_call 49; refine (HO1.out _ hb12).mono ?_; rintro e w3 ⟨rfl, hb3⟩)
      go_ret2
      exact ⟨by rw [HE.out.1, HE.out.2]; rfl, chain HB0.out (chain hb12 hb3)⟩

end Go.Proofs.YthaampmdponhbaaGreatDoor

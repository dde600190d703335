/- Walks: Part of both. -/
import Derived.Test.YthaampmdponhbaaDoorFltAD
namespace Go.Proofs.YthaampmdponhbaaDoor
open Go.RowKit
set_option linter.unusedVariables false

/-- the error of Part -/
def partE (M : Mask) (f g : Flt) (L : List (List Int)) : Int := if validF M f = true ∧ validF M g = true then (if picsB M L = true then 0 else 7) else 1
/-- what Part returns -/
def partB (M : Mask) (f g : Flt) (L : List (List Int)) : Bool := decide (partE M f g L = 0) && !sameR M L f g

theorem refShown_b (w : World) (a : Option Addr) (n cap : Nat) (M : Mask) (hn : M.length = n) (hm : n ≤ maxLen) (H : RowsAt w a M) (a2 : Option Addr) (n2 cap2 : Nat) (L : List (List Int)) (hn2 : L.length = n2) (hm2 : n2 ≤ maxLen) (H2 : RowsAt w a2 L) :
    Calls Tryd.prog 46 #[.slice a n cap, .slice a2 n2 cap2] w fun e w' => e = .returned (.bool (picsB M L)) ∧ Below w.heap.size w w' :=
  (refShown_c w a n cap M hn hm H a2 n2 cap2 L hn2 hm2 H2).mono fun e w' ⟨h1, h2⟩ => ⟨h1, h2 ▸ Below.refl _ _⟩

theorem told_neq {M : Mask} {f g : Flt} {L : List (List Int)} {s t : ByteArray} (hs : s = ⟨(toldT M f L).toArray⟩) (ht : t = ⟨(toldT M g L).toArray⟩) :
    (s.toList == t.toList) = sameR M L f g ∧ (s.toList != t.toList) = !sameR M L f g := by
  have h : (s.toList == t.toList) = sameR M L f g := by
    rw [← beq_toListBytes, bytes_beq, Bool.eq_iff_iff, ← toldT_iff]
    simp only [decide_eq_true_eq]
    constructor
    · intro e
      rw [hs, ht] at e
      simpa using e
    · intro e; rw [hs, ht, e]
  exact ⟨h, by rw [bne, h]⟩

set_option maxHeartbeats 1000000 in
theorem Part_c (w : World) (ht : Tab w) (a : Option Addr) (n cap : Nat) (M : Mask) (hn : M.length = n) (hm : n ≤ maxLen) (H : RowsAt w a M) (f g : Flt) (a2 : Option Addr) (n2 cap2 : Nat) (L : List (List Int)) (hn2 : L.length = n2) (hm2 : n2 ≤ maxLen) (H2 : RowsAt w a2 L) :
    Calls Tryd.prog 16 #[.slice a n cap, f.val, g.val, .slice a2 n2 cap2] w fun e w' => e = .returned (.tuple #[.bool (partB M f g L), .int .i64 (partE M f g L)]) ∧ Below w.heap.size w w' := by
  obtain ⟨wg, hwg, hb0, hcells⟩ := fltBox2 w f g
  have HF := hid (fun (W : World) (hb : Below wg.heap.size wg W) => faultValid_c W a n cap M hn hm (H.below (chain hb0 hb)) f)
  have HG := hid (fun (W : World) (hb : Below wg.heap.size wg W) => faultValid_c W a n cap M hn hm (H.below (chain hb0 hb)) g)
  have HP := hid (fun (W : World) (hb : Below wg.heap.size wg W) => pictures_c W a n cap M hn hm (H.below (chain hb0 hb)) a2 n2 cap2 L hn2 hm2 (H2.below (chain hb0 hb)))
  have HT1 := hid (fun (h1 : validF M f = true) (h : picsB M L = true) (W : World) (hb : Below wg.heap.size wg W) => told_c W (ht.below (chain hb0 hb)) a n cap M hn (H.below (chain hb0 hb)) (validF_ok h1).1 f (validF_ok h1).2 a2 n2 cap2 L hn2 (by have := (picsB_iff h).1; omega) (H2.below (chain hb0 hb)) (picsB_iff h).2)
  have HT2 := hid (fun (h1 : validF M g = true) (h : picsB M L = true) (W : World) (hb : Below wg.heap.size wg W) => told_c W (ht.below (chain hb0 hb)) a n cap M hn (H.below (chain hb0 hb)) (validF_ok h1).1 g (validF_ok h1).2 a2 n2 cap2 L hn2 (by have := (picsB_iff h).1; omega) (H2.below (chain hb0 hb)) (picsB_iff h).2)
  have HC := hid hcells
  have HB0 := hid hb0
  have HWG := hid hwg
  have hcs := hcells wg (Below.refl _ _)
  clear hn H hcells hb0 hwg hm hn2 H2 hm2 ht
  obtain ⟨⟨f0, f1, f2⟩, f3, f4, f5⟩ := hcs
  cases h1 : validF M f
  · have HE := hid (show partE M f g L = 1 ∧ partB M f g L = false by unfold partB partE; rw [h1]; simp)
    rw [h1] at HF
    clear h1 HT1 HT2
    obtain ⟨kind, row, pixel⟩ := f
    obtain ⟨gk, gr, gp⟩ := g
    simp only [Flt.val] at HF HG HC HWG f0 f1 f2 f3 f4 f5 ⊢
    have hw := HWG.out
    clear HWG
    subst hw
    go_enter Tryd.func16, Tryd.ntmps16
    go_wp2_with (go_at_call 26; refine (HF.out _ (Below.refl _ _)).mono ?_; rintro e w1 ⟨rfl, hb1⟩)
    go_ret2
    exact ⟨by rw [HE.out.1, HE.out.2]; rfl, chain HB0.out hb1⟩
  cases h2 : validF M g
  · have HE := hid (show partE M f g L = 1 ∧ partB M f g L = false by unfold partB partE; rw [h1, h2]; simp)
    rw [h1] at HF
    rw [h2] at HG
    clear h1 h2 HT1 HT2
    obtain ⟨kind, row, pixel⟩ := f
    obtain ⟨gk, gr, gp⟩ := g
    simp only [Flt.val] at HF HG HC HWG f0 f1 f2 f3 f4 f5 ⊢
    have hw := HWG.out
    clear HWG
    subst hw
    go_enter Tryd.func16, Tryd.ntmps16
    go_wp2_with (go_at_call 26; refine (HF.out _ (Below.refl _ _)).mono ?_; rintro e w1 ⟨rfl, hb1⟩; refine Stop.of ?_)
    refine Stop.go ?_
    obtain ⟨⟨f0, f1, f2⟩, f3, f4, f5⟩ := HC.out w1 hb1
    go_wp2_with (go_at_call 26; refine (HG.out _ hb1).mono ?_; rintro e w2 ⟨rfl, hb2⟩)
    go_ret2
    exact ⟨by rw [HE.out.1, HE.out.2]; rfl, chain HB0.out (chain hb1 hb2)⟩
  cases h3 : picsB M L
  · have HE := hid (show partE M f g L = 7 ∧ partB M f g L = false by unfold partB partE; rw [h1, h2, h3]; simp)
    rw [h1] at HF
    rw [h2] at HG
    rw [h3] at HP
    clear h1 h2 h3 HT1 HT2
    obtain ⟨kind, row, pixel⟩ := f
    obtain ⟨gk, gr, gp⟩ := g
    simp only [Flt.val] at HF HG HC HWG f0 f1 f2 f3 f4 f5 ⊢
    have hw := HWG.out
    clear HWG
    subst hw
    go_enter Tryd.func16, Tryd.ntmps16
    go_wp2_with (go_at_call 26; refine (HF.out _ (Below.refl _ _)).mono ?_; rintro e w1 ⟨rfl, hb1⟩; refine Stop.of ?_)
    refine Stop.go ?_
    obtain ⟨⟨f0, f1, f2⟩, f3, f4, f5⟩ := HC.out w1 hb1
    go_wp2_with (go_at_call 26; refine (HG.out _ hb1).mono ?_; rintro e w2 ⟨rfl, hb2⟩; refine Stop.of ?_)
    refine Stop.go ?_
    go_wp2_with (go_at_call 44; refine (HP.out _ (chain hb1 hb2)).mono ?_; rintro e w3 ⟨rfl, hb3⟩)
    go_ret2
    exact ⟨by rw [HE.out.1, HE.out.2]; rfl, chain HB0.out (chain (chain hb1 hb2) hb3)⟩
  have HE := hid (show partE M f g L = 0 ∧ partB M f g L = !sameR M L f g by unfold partB partE; rw [h1, h2, h3]; simp)
  have HT11 := hid (HT1.out h1 h3)
  have HT21 := hid (HT2.out h2 h3)
  obtain ⟨s, hs⟩ : ∃ s : ByteArray, s = ⟨(toldT M f L).toArray⟩ := ⟨_, rfl⟩
  obtain ⟨t, ht⟩ : ∃ t : ByteArray, t = ⟨(toldT M g L).toArray⟩ := ⟨_, rfl⟩
  rw [← hs] at HT11
  rw [← ht] at HT21
  obtain ⟨hst, hst2⟩ := told_neq hs ht
  obtain ⟨D, hD⟩ : ∃ D, D = sameR M L f g := ⟨_, rfl⟩
  rw [← hD] at hst hst2 HE
  rw [h1] at HF
  rw [h2] at HG
  rw [h3] at HP
  clear h1 h2 h3 HT1 HT2 hs ht hD
  obtain ⟨kind, row, pixel⟩ := f
  obtain ⟨gk, gr, gp⟩ := g
  simp only [Flt.val] at HF HG HC HWG HT11 HT21 f0 f1 f2 f3 f4 f5 ⊢
  have hw := HWG.out
  clear HWG
  subst hw
  go_enter Tryd.func16, Tryd.ntmps16
  go_wp2_with (go_at_call 26; refine (HF.out _ (Below.refl _ _)).mono ?_; rintro e w1 ⟨rfl, hb1⟩; refine Stop.of ?_)
  refine Stop.go ?_
  obtain ⟨⟨f0, f1, f2⟩, f3, f4, f5⟩ := HC.out w1 hb1
  go_wp2_with (go_at_call 26; refine (HG.out _ hb1).mono ?_; rintro e w2 ⟨rfl, hb2⟩; refine Stop.of ?_)
  refine Stop.go ?_
  go_wp2_with (go_at_call 44; refine (HP.out _ (chain hb1 hb2)).mono ?_; rintro e w3 ⟨rfl, hb3⟩; refine Stop.of ?_)
  refine Stop.go ?_
  have hb13 := chain (chain hb1 hb2) hb3
  clear f0 f1 f2 f3 f4 f5 hb1 hb2 hb3
  go_wp2
  refine plain_region (fun j W => (fun _ : Nat => true) j = true → ((W.cell? ⟨w.heap.size, 0, none⟩ = some (.int .i64 kind) ∧ W.cell? ⟨w.heap.size, 1, none⟩ = some (.int .i64 row) ∧ W.cell? ⟨w.heap.size, 2, none⟩ = some (.int .i64 pixel)) ∧ W.cell? ⟨w.heap.size + 1, 0, none⟩ = some (.int .i64 gk) ∧ W.cell? ⟨w.heap.size + 1, 1, none⟩ = some (.int .i64 gr) ∧ W.cell? ⟨w.heap.size + 1, 2, none⟩ = some (.int .i64 gp))) (by kernel_rfl) ?_
  have hbd := hb13.drew
  generalize w3.drew = wd at hbd ⊢
  refine AnyT.takeW (i := 0) (v := .slice a n cap) rfl (by kernel_rfl) (by kernel_rfl) (by kernel_rfl) (by first | exact (fun _ _ _ h => h) | exact (fun _ _ _ h => absurd h.1 (by simp))) (by kernel_rfl) (by rfl) (by rintro w' hw'; go_simp) (HC.out _ hbd) ?_
  refine AnyT.takeW (i := 1) (v := .agg #[.int .i64 kind, .int .i64 row, .int .i64 pixel]) rfl (by kernel_rfl) (by kernel_rfl) (by kernel_rfl) (by first | exact (fun _ _ _ h => h) | exact (fun _ _ _ h => absurd h.1 (by simp))) (by kernel_rfl) (by rfl) (by rintro w' ⟨⟨q0, q1, q2⟩, q3, q4, q5⟩; go_simp) (HC.out _ hbd) ?_
  refine AnyT.takeW (i := 2) (v := .slice a2 n2 cap2) rfl (by kernel_rfl) (by kernel_rfl) (by kernel_rfl) (by first | exact (fun _ _ _ h => h) | exact (fun _ _ _ h => absurd h.1 (by simp))) (by kernel_rfl) (by rfl) (by rintro w' hw'; go_simp) (HC.out _ hbd) ?_
  refine AnyT.takeW (i := 4) (v := .slice a n cap) rfl (by kernel_rfl) (by kernel_rfl) (by kernel_rfl) (by first | exact (fun _ _ _ h => h) | exact (fun _ _ _ h => absurd h.1 (by simp))) (by kernel_rfl) (by rfl) (by rintro w' hw'; go_simp) (HC.out _ hbd) ?_
  refine AnyT.takeW (i := 5) (v := .agg #[.int .i64 gk, .int .i64 gr, .int .i64 gp]) rfl (by kernel_rfl) (by kernel_rfl) (by kernel_rfl) (by first | exact (fun _ _ _ h => h) | exact (fun _ _ _ h => absurd h.1 (by simp))) (by kernel_rfl) (by rfl) (by rintro w' ⟨⟨q0, q1, q2⟩, q3, q4, q5⟩; go_simp) (HC.out _ hbd) ?_
  refine AnyT.takeW (i := 6) (v := .slice a2 n2 cap2) rfl (by kernel_rfl) (by kernel_rfl) (by kernel_rfl) (by first | exact (fun _ _ _ h => h) | exact (fun _ _ _ h => absurd h.1 (by simp))) (by kernel_rfl) (by rfl) (by rintro w' hw'; go_simp) (HC.out _ hbd) ?_
  refine AnyT.next (i := 3) (by kernel_rfl) rfl (wpOp_of_list rfl ?_)
  go_wp2_with (go_at_call 45; refine (HT11.out _ hbd).mono ?_; rintro e w4 ⟨rfl, hbl4⟩; refine Stop.of ?_)
  refine Stop.go ?_
  have hw4 := chain hbd hbl4
  go_wp2
  refine ⟨fun _ => HC.out _ hw4, ?_⟩
  refine AnyT.next (i := 7) (by kernel_rfl) rfl (wpOp_of_list rfl ?_)
  go_wp2_with (go_at_call 45; refine (HT21.out _ hw4).mono ?_; rintro e w5 ⟨rfl, hbl5⟩; refine Stop.of ?_)
  refine Stop.go ?_
  have hw5 := chain hw4 hbl5
  go_wp2
  refine ⟨fun _ => HC.out _ hw5, ?_⟩
  refine AnyT.next (i := 8) (by kernel_rfl) rfl (wpOp_of_list rfl ?_)
  go_wp2
  refine ⟨fun _ => HC.out _ hw5, ?_⟩
  refine AnyT.next (i := 9) (by kernel_rfl) rfl (wpOp_of_list rfl ?_)
  go_wp2
  refine ⟨fun _ => HC.out _ hw5, ?_⟩
  refine AnyT.next (i := 10) (by kernel_rfl) rfl (wpOp_of_list rfl ?_)
  go_wp2
  refine ⟨fun _ => HC.out _ hw5, ?_⟩
  refine AnyT.done (by kernel_rfl) ?_ _
  go_wp2
  go_ret2
  exact ⟨by rw [HE.out.1, HE.out.2]; rfl, chain HB0.out hw5⟩

set_option maxHeartbeats 1000000 in
theorem refPart2_c (w : World) (a : Option Addr) (n cap : Nat) (M : Mask) (hn : M.length = n) (hm : n ≤ maxLen) (H : RowsAt w a M) (f g : Flt) (a2 : Option Addr) (n2 cap2 : Nat) (L : List (List Int)) (hn2 : L.length = n2) (hm2 : n2 ≤ maxLen) (H2 : RowsAt w a2 L) :
    Calls Tryd.prog 17 #[.slice a n cap, f.val, g.val, .slice a2 n2 cap2] w fun e w' => e = .returned (.tuple #[.bool (partB M f g L), .int .i64 (partE M f g L)]) ∧ Below w.heap.size w w' := by
  obtain ⟨wg, hwg, hb0, hcells⟩ := fltBox2 w f g
  have HF := hid (fun (W : World) (hb : Below wg.heap.size wg W) => refFValid_c W a n cap M hn hm (H.below (chain hb0 hb)) f)
  have HG := hid (fun (W : World) (hb : Below wg.heap.size wg W) => refFValid_c W a n cap M hn hm (H.below (chain hb0 hb)) g)
  have HP := hid (fun (W : World) (hb : Below wg.heap.size wg W) => refShown_b W a n cap M hn hm (H.below (chain hb0 hb)) a2 n2 cap2 L hn2 hm2 (H2.below (chain hb0 hb)))
  have HT1 := hid (fun (h1 : validF M f = true) (h2 : validF M g = true) (h : picsB M L = true) (W : World) (hb : Below wg.heap.size wg W) => refPart_c W a n cap M hn (H.below (chain hb0 hb)) (validF_ok h1).1 f g (validF_ok h1).2 (validF_ok h2).2 a2 n2 cap2 L hn2 hm2 (H2.below (chain hb0 hb)) (picsB_iff h).2)
  have HC := hid hcells
  have HB0 := hid hb0
  have HWG := hid hwg
  have hcs := hcells wg (Below.refl _ _)
  clear hn H hcells hb0 hwg hm hn2 H2 hm2
  obtain ⟨⟨f0, f1, f2⟩, f3, f4, f5⟩ := hcs
  cases h1 : validF M f
  · have HE := hid (show partE M f g L = 1 ∧ partB M f g L = false by unfold partB partE; rw [h1]; simp)
    rw [h1] at HF
    clear h1 HT1
    obtain ⟨kind, row, pixel⟩ := f
    obtain ⟨gk, gr, gp⟩ := g
    simp only [Flt.val] at HF HG HC HWG f0 f1 f2 f3 f4 f5 ⊢
    have hw := HWG.out
    clear HWG
    subst hw
    go_enter Tryd.func17, Tryd.ntmps17
    go_wp2_with (go_at_call 27; refine (HF.out _ (Below.refl _ _)).mono ?_; rintro e w1 ⟨rfl, hb1⟩)
    go_ret2
    exact ⟨by rw [HE.out.1, HE.out.2]; rfl, chain HB0.out hb1⟩
  cases h2 : validF M g
  · have HE := hid (show partE M f g L = 1 ∧ partB M f g L = false by unfold partB partE; rw [h1, h2]; simp)
    rw [h1] at HF
    rw [h2] at HG
    clear h1 h2 HT1
    obtain ⟨kind, row, pixel⟩ := f
    obtain ⟨gk, gr, gp⟩ := g
    simp only [Flt.val] at HF HG HC HWG f0 f1 f2 f3 f4 f5 ⊢
    have hw := HWG.out
    clear HWG
    subst hw
    go_enter Tryd.func17, Tryd.ntmps17
    go_wp2_with (go_at_call 27; refine (HF.out _ (Below.refl _ _)).mono ?_; rintro e w1 ⟨rfl, hb1⟩; refine Stop.of ?_)
    refine Stop.go ?_
    obtain ⟨⟨f0, f1, f2⟩, f3, f4, f5⟩ := HC.out w1 hb1
    go_wp2_with (go_at_call 27; refine (HG.out _ hb1).mono ?_; rintro e w2 ⟨rfl, hb2⟩)
    go_ret2
    exact ⟨by rw [HE.out.1, HE.out.2]; rfl, chain HB0.out (chain hb1 hb2)⟩
  cases h3 : picsB M L
  · have HE := hid (show partE M f g L = 7 ∧ partB M f g L = false by unfold partB partE; rw [h1, h2, h3]; simp)
    rw [h1] at HF
    rw [h2] at HG
    rw [h3] at HP
    clear h1 h2 h3 HT1
    obtain ⟨kind, row, pixel⟩ := f
    obtain ⟨gk, gr, gp⟩ := g
    simp only [Flt.val] at HF HG HC HWG f0 f1 f2 f3 f4 f5 ⊢
    have hw := HWG.out
    clear HWG
    subst hw
    go_enter Tryd.func17, Tryd.ntmps17
    go_wp2_with (go_at_call 27; refine (HF.out _ (Below.refl _ _)).mono ?_; rintro e w1 ⟨rfl, hb1⟩; refine Stop.of ?_)
    refine Stop.go ?_
    obtain ⟨⟨f0, f1, f2⟩, f3, f4, f5⟩ := HC.out w1 hb1
    go_wp2_with (go_at_call 27; refine (HG.out _ hb1).mono ?_; rintro e w2 ⟨rfl, hb2⟩; refine Stop.of ?_)
    refine Stop.go ?_
    go_wp2_with (go_at_call 46; refine (HP.out _ (chain hb1 hb2)).mono ?_; rintro e w3 ⟨rfl, hb3⟩)
    go_ret2
    exact ⟨by rw [HE.out.1, HE.out.2]; rfl, chain HB0.out (chain (chain hb1 hb2) hb3)⟩
  have HE := hid (show partE M f g L = 0 ∧ partB M f g L = !sameR M L f g by unfold partB partE; rw [h1, h2, h3]; simp)
  have HT11 := hid (HT1.out h1 h2 h3)
  obtain ⟨D, hD⟩ : ∃ D, D = sameR M L f g := ⟨_, rfl⟩
  rw [← hD] at HE HT11
  rw [h1] at HF
  rw [h2] at HG
  rw [h3] at HP
  clear h1 h2 h3 HT1 hD
  obtain ⟨kind, row, pixel⟩ := f
  obtain ⟨gk, gr, gp⟩ := g
  simp only [Flt.val] at HF HG HC HWG HT11 f0 f1 f2 f3 f4 f5 ⊢
  have hw := HWG.out
  clear HWG
  subst hw
  go_enter Tryd.func17, Tryd.ntmps17
  go_wp2_with (go_at_call 27; refine (HF.out _ (Below.refl _ _)).mono ?_; rintro e w1 ⟨rfl, hb1⟩; refine Stop.of ?_)
  refine Stop.go ?_
  obtain ⟨⟨f0, f1, f2⟩, f3, f4, f5⟩ := HC.out w1 hb1
  go_wp2_with (go_at_call 27; refine (HG.out _ hb1).mono ?_; rintro e w2 ⟨rfl, hb2⟩; refine Stop.of ?_)
  refine Stop.go ?_
  go_wp2_with (go_at_call 46; refine (HP.out _ (chain hb1 hb2)).mono ?_; rintro e w3 ⟨rfl, hb3⟩; refine Stop.of ?_)
  refine Stop.go ?_
  have hb13 := chain (chain hb1 hb2) hb3
  clear f0 f1 f2 f3 f4 f5 hb1 hb2 hb3
  obtain ⟨⟨f0, f1, f2⟩, f3, f4, f5⟩ := HC.out w3 hb13
  go_wp2_with (go_at_call 47; refine (HT11.out _ hb13).mono ?_; rintro e w4 ⟨rfl, hb4⟩)
  go_ret2
  exact ⟨by rw [HE.out.1, HE.out.2]; rfl, chain HB0.out (chain hb13 hb4)⟩
end Go.Proofs.YthaampmdponhbaaDoor

/- Walks: the reference's part; Part of both. -/
import Derived.Test.YthaampmdponhbaaDoorFltAC
namespace Go.Proofs.YthaampmdponhbaaDoor
open Go.RowKit
set_option linter.unusedVariables false

theorem sameInts_d (W : World) (a a2 : Option Addr) (n n2 cap cap2 : Nat) (l l2 : List Int) (D : Bool) (hn : l.length = n) (hn2 : l2.length = n2) (hm : n ≤ maxLen) (hm2 : n2 ≤ maxLen) (H : IntsAt W a l) (H2 : IntsAt W a2 l2) (hD : D = decide (l = l2)) :
    Calls Tryd.prog 12 #[.slice a n cap, .slice a2 n2 cap2] W fun e w' => e = .returned (.bool D) ∧ Below W.heap.size W w' := by
  subst hD
  exact (sameInts_c W a a2 n cap n2 cap2 l l2 hn hn2 hm hm2 H H2).mono fun e w' ⟨h1, k, h2⟩ => ⟨h1, by rw [h2]; exact below_drewN (Below.refl _ _) _⟩

theorem reads_v (w : World) (a : Option Addr) (n cap : Nat) (M : Mask) (hn : M.length = n) (H : RowsAt w a M) (hM : okM M = true) (f : Flt) (hf : okF M f = true) (a2 : Option Addr) (n2 cap2 : Nat) (x : List Int) (hn2 : x.length = n2) (H2 : IntsAt w a2 x) (hx : okShown M x = true) :
    Calls Tryd.prog 61 #[.slice a n cap, f.val, .slice a2 n2 cap2] w fun e w' => ∃ va vc, e = .returned (.slice va n vc) ∧ IntsAt w' va (readF M f x) ∧ Below w.heap.size w w' :=
  (reads_c w a n cap M hn H hM f hf a2 n2 cap2 x hn2 H2 hx).mono fun e w' ⟨v, base, he, _, hown, hb⟩ => by
    obtain ⟨va, vc, hv, hI⟩ := ints_own hown (by rw [readF_length, hn])
    exact ⟨va, vc, by rw [he, hv], hI, hb⟩
theorem refReads_v (w : World) (a : Option Addr) (n cap : Nat) (M : Mask) (hn : M.length = n) (H : RowsAt w a M) (hM : okM M = true) (f : Flt) (hf : okF M f = true) (a2 : Option Addr) (n2 cap2 : Nat) (x : List Int) (hn2 : x.length = n2) (H2 : IntsAt w a2 x) (hx : okShown M x = true) :
    Calls Tryd.prog 62 #[.slice a n cap, f.val, .slice a2 n2 cap2] w fun e w' => ∃ va vc, e = .returned (.slice va n vc) ∧ IntsAt w' va (readF M f x) ∧ Below w.heap.size w w' :=
  (refReads_c w a n cap M hn H hM f hf a2 n2 cap2 x hn2 H2 hx).mono fun e w' ⟨v, base, he, _, hown, hb⟩ => by
    obtain ⟨va, vc, hv, hI⟩ := ints_own hown (by rw [readF_length, hn])
    exact ⟨va, vc, by rw [he, hv], hI, hb⟩

theorem sameR_stop {M : Mask} {L : List (List Int)} {f g : Flt} {k : Nat} (hk : k < L.length) (h : readF M f L[k] ≠ readF M g L[k]) : sameR M L f g = false := by
  unfold sameR
  exact all_stop hk (by simpa using h)
theorem sameR_done {M : Mask} {L : List (List Int)} {f g : Flt} (h : ∀ j (hj : j < L.length), readF M f L[j] = readF M g L[j]) : sameR M L f g = true := by
  unfold sameR
  exact all_done (fun j hj => by simpa using h j hj)

set_option maxRecDepth 100000 in
set_option maxHeartbeats 2000000 in
theorem refPart_c (w : World) (a : Option Addr) (n cap : Nat) (M : Mask) (hn : M.length = n) (H : RowsAt w a M) (hM : okM M = true) (f g : Flt) (hf : okF M f = true) (hg : okF M g = true) (a2 : Option Addr) (n2 cap2 : Nat) (L : List (List Int)) (hn2 : L.length = n2) (hm2 : n2 ≤ maxLen) (H2 : RowsAt w a2 L) (hx : ∀ x ∈ L, okShown M x = true) :
    Calls Tryd.prog 47 #[.slice a n cap, f.val, g.val, .slice a2 n2 cap2] w fun e w' => e = .returned (.bool (!sameR M L f g)) ∧ Below w.heap.size w w' := by
  obtain ⟨wg, hwg, hb0, hcells⟩ := fltBox2 w f g
  have HF := hid (fun (W : World) (hb : Below wg.heap.size wg W) (xa : Option Addr) (xn xc : Nat) (x : List Int) (hxL : x ∈ L) (hxn : x.length = xn) (hxi : IntsAt W xa x) => refReads_v W a n cap M hn (H.below (chain hb0 hb)) hM f hf xa xn xc x hxn hxi (hx x hxL))
  have HG := hid (fun (W : World) (hb : Below wg.heap.size wg W) (xa : Option Addr) (xn xc : Nat) (x : List Int) (hxL : x ∈ L) (hxn : x.length = xn) (hxi : IntsAt W xa x) => refReads_v W a n cap M hn (H.below (chain hb0 hb)) hM g hg xa xn xc x hxn hxi (hx x hxL))
  have HSI := hid (fun (W : World) (x : List Int) (a4 a5 : Option Addr) (c4 c5 : Nat) (h4 : IntsAt W a4 (readF M f x)) (h5 : IntsAt W a5 (readF M g x)) => sameInts_d W a4 a5 n n c4 c5 _ _ _ (by rw [readF_length, hn]) (by rw [readF_length, hn]) (by have := (okM_len hM).2.1; unfold maxLen; omega) (by have := (okM_len hM).2.1; unfold maxLen; omega) h4 h5 rfl)
  have HST := hid (fun k hk h => @sameR_stop M L f g k hk h)
  have HDN := hid (@sameR_done M L f g)
  have HN2 := hid hn2
  have HH2 := hid (H2.below hb0)
  have HC := hid hcells
  have HB0 := hid hb0
  have HWG := hid hwg
  unfold maxLen at hm2
  clear hn H hM hf hg hn2 H2 hx hcells hb0 hwg
  obtain ⟨R1, hR1⟩ : ∃ R, R = readF M f := ⟨_, rfl⟩
  obtain ⟨R2, hR2⟩ : ∃ R, R = readF M g := ⟨_, rfl⟩
  rw [← hR1, ← hR2] at HSI HST HDN
  rw [← hR1] at HF
  rw [← hR2] at HG
  obtain ⟨SR, hSR⟩ : ∃ R, R = sameR M L f g := ⟨_, rfl⟩
  rw [← hSR] at HST HDN ⊢
  clear hR1 hR2 hSR
  obtain ⟨kind, row, pixel⟩ := f
  obtain ⟨gk, gr, gp⟩ := g
  simp only [Flt.val] at HF HG HC HWG ⊢
  have hw := HWG.out
  go_enter Tryd.func47, Tryd.ntmps47
  go_wp2
  rw [← hw]
  clear hw
  go_loopw [13] (fun i wr => ∃ k : Nat, k ≤ n2 ∧ i = .int .i64 k ∧ Below wg.heap.size wg wr ∧ Hid (∀ j (hj : j < L.length), j < k → R1 L[j] = R2 L[j])) (fun i _ => n2 - (intOf i).toNat)
  case atStart => exact ⟨0, Nat.zero_le _, rfl, Below.refl _ _, hid (fun j _ h => by omega)⟩
  case round =>
    obtain ⟨k, hk, rfl, hbk, hno⟩ := hrel
    by_cases hlt : k < n2
    · have hkl : k < L.length := by rw [HN2.out]; exact hlt
      obtain ⟨b, off, xa, xn, xc, rfl, hbs, hc, hxn, hxm, hxi⟩ := (HH2.out.below hbk) k hkl
      have hmem := List.getElem_mem hkl
      obtain ⟨x, hx⟩ : ∃ x, x = L[k]'hkl := ⟨_, rfl⟩
      rw [← hx] at hxn hxi hmem
      have HF1 := hid (fun (W : World) (hb : Below wr.heap.size wr W) => HF.out W (chain hbk hb) xa xn xc x hmem hxn (hxi.below hb))
      have HG1 := hid (fun (W : World) (hb : Below wr.heap.size wr W) => HG.out W (chain hbk hb) xa xn xc x hmem hxn (hxi.below hb))
      have HS1 := hid (HSI.out)
      have HKL := hid hkl
      have HX := hid hx
      have HBK := hid hbk
      have HC1 := hid (fun (W : World) (hb : Below wr.heap.size wr W) => HC.out W (chain hbk hb))
      obtain ⟨D, hD⟩ : ∃ D, D = decide (R1 x = R2 x) := ⟨_, rfl⟩
      have HSM := hid (fun (W : World) (a4 a5 : Option Addr) (c4 c5 : Nat) (h4 : IntsAt W a4 (R1 x)) (h5 : IntsAt W a5 (R2 x)) => show Calls Tryd.prog 12 #[.slice a4 n c4, .slice a5 n c5] W fun e w' => e = Ending.returned (.bool D) ∧ Below W.heap.size W w' from by
        rw [hD]; exact HSI.out W x a4 a5 c4 c5 h4 h5)
      have HD := hid hD
      clear hxn hxi hmem hx hbk hD HS1
      go_wp2
      refine plain_region (fun j W => (fun _ : Nat => true) j = true → ((W.cell? ⟨w.heap.size, 0, none⟩ = some (.int .i64 kind) ∧ W.cell? ⟨w.heap.size, 1, none⟩ = some (.int .i64 row) ∧ W.cell? ⟨w.heap.size, 2, none⟩ = some (.int .i64 pixel)) ∧ W.cell? ⟨w.heap.size + 1, 0, none⟩ = some (.int .i64 gk) ∧ W.cell? ⟨w.heap.size + 1, 1, none⟩ = some (.int .i64 gr) ∧ W.cell? ⟨w.heap.size + 1, 2, none⟩ = some (.int .i64 gp))) (by kernel_rfl) ?_
      have hbd : Below wr.heap.size wr wr.drew := (Below.refl _ _).drew
      generalize wr.drew = wd at hbd ⊢
      refine AnyT.takeW (i := 0) (v := .slice a n cap) rfl (by kernel_rfl) (by kernel_rfl) (by kernel_rfl) (by first | exact (fun _ _ _ h => h) | exact (fun _ _ _ h => absurd h.1 (by simp))) (by kernel_rfl) (by rfl) (by rintro w' hw'; go_simp) (HC1.out _ hbd) ?_
      refine AnyT.takeW (i := 1) (v := .agg #[.int .i64 kind, .int .i64 row, .int .i64 pixel]) rfl (by kernel_rfl) (by kernel_rfl) (by kernel_rfl) (by first | exact (fun _ _ _ h => h) | exact (fun _ _ _ h => absurd h.1 (by simp))) (by kernel_rfl) (by rfl) (by rintro w' ⟨⟨q0, q1, q2⟩, q3, q4, q5⟩; go_simp) (HC1.out _ hbd) ?_
      refine AnyT.takeW (i := 2) (v := .slice xa xn xc) rfl (by kernel_rfl) (by kernel_rfl) (by kernel_rfl) (by first | exact (fun _ _ _ h => h) | exact (fun _ _ _ h => absurd h.1 (by simp))) (by kernel_rfl) (by rfl) (by rintro w' hw'; go_simp) (HC1.out _ hbd) ?_
      refine AnyT.takeW (i := 4) (v := .slice a n cap) rfl (by kernel_rfl) (by kernel_rfl) (by kernel_rfl) (by first | exact (fun _ _ _ h => h) | exact (fun _ _ _ h => absurd h.1 (by simp))) (by kernel_rfl) (by rfl) (by rintro w' hw'; go_simp) (HC1.out _ hbd) ?_
      refine AnyT.takeW (i := 5) (v := .agg #[.int .i64 gk, .int .i64 gr, .int .i64 gp]) rfl (by kernel_rfl) (by kernel_rfl) (by kernel_rfl) (by first | exact (fun _ _ _ h => h) | exact (fun _ _ _ h => absurd h.1 (by simp))) (by kernel_rfl) (by rfl) (by rintro w' ⟨⟨q0, q1, q2⟩, q3, q4, q5⟩; go_simp) (HC1.out _ hbd) ?_
      refine AnyT.takeW (i := 6) (v := .slice xa xn xc) rfl (by kernel_rfl) (by kernel_rfl) (by kernel_rfl) (by first | exact (fun _ _ _ h => h) | exact (fun _ _ _ h => absurd h.1 (by simp))) (by kernel_rfl) (by rfl) (by rintro w' hw'; go_simp) (HC1.out _ hbd) ?_
      refine AnyT.next (i := 3) (by kernel_rfl) rfl (wpOp_of_list rfl ?_)
      go_wp2_with (go_at_call 62; refine (HF1.out _ hbd).mono ?_; rintro e w4 ⟨a4, c4, rfl, hA4, hbl4⟩; refine Stop.of ?_)
      refine Stop.go ?_
      have hw4 := chain hbd hbl4
      go_wp2
      refine ⟨fun _ => HC1.out _ hw4, ?_⟩
      refine AnyT.next (i := 7) (by kernel_rfl) rfl (wpOp_of_list rfl ?_)
      go_wp2_with (go_at_call 62; refine (HG1.out _ hw4).mono ?_; rintro e w5 ⟨a5, c5, rfl, hA5, hbl5⟩; refine Stop.of ?_)
      refine Stop.go ?_
      have hw5 := chain hw4 hbl5
      go_wp2
      refine ⟨fun _ => HC1.out _ hw5, ?_⟩
      refine AnyT.next (i := 8) (by kernel_rfl) rfl (wpOp_of_list rfl ?_)
      go_wp2_with (go_at_call 12; refine (HSM.out w5 a4 a5 c4 c5 (hA4.below hbl5) hA5).mono ?_; rintro e w6 ⟨rfl, hbl6⟩; refine Stop.of ?_)
      refine Stop.go ?_
      have hw6 := chain hw5 hbl6
      have HW6 := hid hw6
      clear hA4 hA5 hw4 hw5 hw6 hbl4 hbl5 hbl6
      go_wp2
      refine ⟨fun _ => HC1.out _ HW6.out, ?_⟩
      refine AnyT.next (i := 9) (by kernel_rfl) rfl (wpOp_of_list rfl ?_)
      go_wp2
      refine ⟨fun _ => HC1.out _ HW6.out, ?_⟩
      refine AnyT.done (by kernel_rfl) ?_ _
      cases D
      · go_wp2
        go_ret
        refine ⟨ret_bool ?_, HB0.out.trans ((HBK.out.trans (HW6.out.mono HBK.out.size)).mono HB0.out.size)⟩
        rw [HST.out k HKL.out (by rw [← HX.out]; exact of_decide_eq_false HD.out.symm)]; rfl
      · go_wp2
        refine ⟨⟨k + 1, by omega, by go_num, HBK.out.trans (HW6.out.mono HBK.out.size), hid (fun j hj hjk => ?_)⟩, by simp [intOf]; omega⟩
        rcases Nat.lt_or_ge j k with h | h
        · exact hno.out j hj h
        · obtain rfl : j = k := by omega
          rw [← HX.out]
          exact of_decide_eq_true HD.out.symm
    · obtain rfl : k = n2 := by omega
      go_wp2
      go_ret
      refine ⟨ret_bool ?_, chain HB0.out hbk⟩
      rw [HDN.out (fun j hj => hno.out j hj (by rw [← HN2.out]; exact hj))]; rfl
end Go.Proofs.YthaampmdponhbaaDoor

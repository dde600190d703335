/- Walks and plain laws for StreamSentRow, part 9. -/
import Derived.Maps.OwnIn
import Derived.Test.YtkmjeegnijohmaaGreatPkStreamSentRow8
namespace Go.Proofs.YtkmjeegnijohmaaGreat
open Go.RowKit
set_option linter.unusedVariables false
attribute [local go_sem] Oper.semAt_some

def WholePost (w : World) (M : Mask) (y : List Int) (k : Int) (e : Ending) (w' : World) : Prop :=
  Below w.heap.size w w' ∧ ((countE M y k ≠ 0 ∧ e = .returned (.tuple #[.slice none 0 0, .int .i64 (countE M y k)])) ∨
    (countE M y k = 0 ∧ ∃ v, e = .returned (.tuple #[v, .int .i64 0]) ∧ ∃ base, w.heap.size ≤ base ∧ RowsN 33 w' base (fun _ => True) v (wholeF M y k.toNat)))

set_option maxRecDepth 100000 in
set_option maxHeartbeats 4000000 in
theorem whole_c (w : World) (a a2 : Option Addr) (n cap n2 cap2 : Nat) (M : Mask) (y : List Int) (k : Int) (hn : M.length = n) (hn2 : y.length = n2) (hm : n ≤ maxLen) (hm2 : n2 ≤ maxLen) (H : RowsAt w a M) (H2 : IntsAt w a2 y) :
    Calls Tryz.prog 84 #[.slice a n cap, .slice a2 n2 cap2, .int .i64 k] w (WholePost w M y k) := by
  have HC := hid (fun (W : World) (hb : Below w.heap.size w W) => counted_c W a a2 n cap n2 cap2 M y k hn hn2 hm hm2 (H.below hb) (H2.below hb))
  by_cases h0 : countE M y k = 0
  · obtain ⟨hM, hyn, hyB, _⟩ := check_ok (show checkE M y [] = 0 by
      unfold countE at h0; split at h0
      · assumption
      · exact h0)
    have hk : inB k 0 10 = true := by
      unfold countE at h0; split at h0
      · cases hb : inB k 0 10
        · rw [hb] at h0; simp at h0
        · rfl
      · contradiction
    obtain ⟨hM', h1, h6, hc1, hc10⟩ := okM_ok hM
    have hkk : ∃ q : Nat, k = (q : Int) ∧ q ≤ 10 := ⟨k.toNat, by unfold inB at hk; simp at hk; omega, by unfold inB at hk; simp at hk; omega⟩
    obtain ⟨q, rfl, hq10⟩ := hkk
    obtain ⟨b, off, ra, rc, rfl, hb, hc⟩ := rows_head H (by omega)
    have HPOST := hid (show ∀ e w', Below w.heap.size w w' → (∃ v, e = .returned (.tuple #[v, .int .i64 0]) ∧ ∃ base, w.heap.size ≤ base ∧ RowsN 33 w' base (fun _ => True) v (wholeF M y q)) → WholePost w M y q e w' from fun e w' h1 h2 => ⟨h1, .inr ⟨h0, h2⟩⟩)
    have HFI := hid (fun (w0 : World) (fp : Nat → Prop) (kb qb : Nat) => fits_iter w0 fp q kb qb (some ⟨b, off, none⟩) a2 n cap n2 cap2 M y hn hn2 hm hm2 (by omega) (by omega) (by omega))
    have HR := hid (show ∀ X : World, (∀ q, q < w.heap.size → X.heap[q]? = w.heap[q]?) → RowsAt X (some ⟨b, off, none⟩) M ∧ IntsAt X a2 y from fun X hX => ⟨RowsAt.blk H hX, IntsAt.blk H2 hX⟩)
    obtain ⟨W, hW⟩ : ∃ W, W = colsM M := ⟨_, rfl⟩
    have HWM := hid hW
    rw [← hW] at hc hc1 hc10
    rw [h0] at HC
    have HMK := hid (show ∀ w, (Instr.makeSlice 33 (.int .i64 (W : Int)) (.int .i64 (W : Int))).run Tryz.prog w = .ok (.slice (some ⟨w.heap.size, 0, none⟩) W W) (w.alloc (.cells (madeCells #[.int .i64 0] W) 3)) from fun w => run_make_row' 33 3 (.int .i64 0) 8 Tryz.underlying33 li_int rfl .i64 .i64 W (by omega) (by omega) w)
    have hz : (0 : Int) < (n : Int) := by omega
    clear hn hn2 hm hm2 H H2 h0 hM hyn hyB hk hW
    refine callsIn_wide (n := 0) |>.1 ?_
    refine callsIn_of_wp_marks Tryz.func84 rfl trivial ?_ rfl
    simp only [Tryz.ntmps84, List.size_toArray, List.length_cons, List.length_nil, Nat.reduceAdd, Nat.reduceSub, Array.replicate_succ, Array.replicate_zero, List.push_toArray, List.append_toArray, List.nil_append, List.cons_append]
    gi_wp2_with (refine ⟨trivial, rfl, ?_⟩; gi_at_call 102; refine (callsIn_wide.2 (HC.out _ ((Below.refl _ w).alloc (Nat.le_refl _) _))).mono ?_; rintro e w1 ⟨rfl, hb1⟩; refine Stop.of ?_)
    refine Stop.go ?_
    have hbw1 := chain ((Below.refl _ w).alloc (Nat.le_refl _) (.cells #[.slice (some ⟨b, off, none⟩) n cap] 23)) hb1
    have hsw : w.heap.size < w1.heap.size := Nat.lt_of_lt_of_le (by simp) hb1.size
    have hB1 : Boxed w1 w.heap.size 23 (.slice (some ⟨b, off, none⟩) n cap) := (hb1.block _ (by simp)).trans (Boxed.new w 23 _)
    have hc1 := hB1.cell
    have HBW1 := hid hbw1
    clear hb1 hbw1
    gi_wp2_with (refine ⟨trivial, rfl, ?_⟩; gi_at_call 105; refine (callsIn_wide.2 (qfits_c _ _ _ _ _ _ _ _)).mono ?_; rintro e w' ⟨rfl, rfl⟩; refine Stop.of ?_)
    refine Stop.go ?_
    obtain ⟨w3, hw3⟩ : ∃ w3, w3 = ((((w1.alloc (.cells #[.func (.func 103) #[] #[]] 102)).alloc (.cells #[.slice none 0 0] 22)).alloc (.cells #[.slice (some ⟨b, off, none⟩) n cap, .slice a2 n2 cap2] 106)).alloc (.cells #[.int .i64 q] 3)) := ⟨_, rfl⟩
    obtain ⟨x1, x2, x3, x4, hs3, hb3⟩ := alloc4 w1 (.cells #[.func (.func 103) #[] #[]] 102) (.cells #[.slice none 0 0] 22) (.cells #[.slice (some ⟨b, off, none⟩) n cap, .slice a2 n2 cap2] 106) (.cells #[.int .i64 q] 3)
    rw [← hw3] at x1 x2 x3 x4 hs3 hb3
    have hB3 : Boxed w3 w.heap.size 23 (.slice (some ⟨b, off, none⟩) n cap) := (hb3.block _ hsw).trans hB1
    have hbw3 := chain HBW1.out hb3
    rw [← hw3]
    have X1 := hid (show Boxed w3 w1.heap.size 102 (.func (.func 103) #[] #[]) from x1)
    have X2 := hid (show Boxed w3 (w1.heap.size + 1) 22 (.slice none 0 0) from x2)
    have X4 := hid (show Boxed w3 (w1.heap.size + 3) 3 (.int .i64 q) from x4)
    have X3 := hid x3
    have HB3 := hid hB3
    have HBW3 := hid hbw3
    clear hw3 x1 x2 x3 x4 hb3 hB3 hbw3 hc1 hB1
    obtain ⟨fp, hfp⟩ : ∃ fp : Nat → Prop, fp = fun q => q < w3.heap.size ∧ q ≠ w1.heap.size + 1 := ⟨_, rfl⟩
    have HFP := hid hfp
    clear hfp
    have HIT := hid (HFI.out w3 fp (w1.heap.size + 3) (w1.heap.size + 2) (by rw [HFP.out]; exact fun q h => h.1) (by rw [HFP.out]; exact ⟨by omega, by omega⟩) (by rw [HFP.out]; exact ⟨by omega, by omega⟩) X4.out.cell X3.out
      (fun X _ hX => HR.out X fun q hq => by
        rw [HFP.out] at hX
        have := HBW3.out.size
        exact (hX q ⟨by omega, by omega⟩).trans (HBW3.out.block q hq)))
    have HS3 := hid hs3
    clear hs3
    gi_wp2
    refine range_s (gf := 115) (lb := #[.pointer (some ⟨w1.heap.size + 3, 0, none⟩), .pointer (some ⟨w1.heap.size + 2, 0, none⟩)]) (xs := fitsF M y q) (fp := fp) (V := FitV) rfl (enters_of Tryz.func115 (by kernel_rfl) rfl)
      HIT.out (Below.refl _ _) (by rw [HFP.out]; exact fun q h => h.1)
      (fun Sr pre Z => WholeI w w3 (w1.heap.size + 1) fp Sr (pre.filterMap (wholeOne W)) Z)
      (fun _ _ _ _ => False) ?hI (fun _ _ _ _ _ _ h => h.elim) ?hV ?h0
      (fun v a' Z => ∃ p u1 u2, a' = { tmps := #[.slice (some ⟨b, off, none⟩) n cap, .slice a2 n2 cap2, .int .i64 q, .pointer (some ⟨w.heap.size, 0, none⟩), undef, undef, .slice none 0 0, .int .i64 0, .int .i64 0, .pointer (some ⟨w1.heap.size, 0, none⟩), .pointer (some ⟨w1.heap.size + 1, 0, none⟩), .pointer (some ⟨p, 0, none⟩), undef, undef, undef, undef, .slice (some ⟨b, off, none⟩) n cap, .slice a2 n2 cap2, .int .i64 q, .int .i64 0, .int .i64 0, .bool false, undef, .slice (some ⟨b, off, none⟩) n cap, .slice a2 n2 cap2, .agg #[.slice (some ⟨b, off, none⟩) n cap, .slice a2 n2 cap2], .int .i64 q, .func (.func 115) #[] #[.pointer (some ⟨w1.heap.size + 3, 0, none⟩), .pointer (some ⟨w1.heap.size + 2, 0, none⟩)], v, undef, undef, undef, undef, undef, undef, undef, undef, undef, undef, undef, undef, undef, undef, undef, undef, undef, undef, undef, undef, undef, undef, undef, undef, undef, undef, undef, undef, undef, undef, undef, undef, undef, undef, undef, undef, undef, undef, undef], defers := [] } ∧ v = .agg #[u1, u2] ∧ w3.heap.size + 2 ≤ p ∧ Z.heap[p]? = some (.cells #[u1, u2] 110 (0, 0))) ?hAx ?hassign ?hbody ?hdone ?hstop
    case hI =>
      intro Sr Sr' s A B hIA h1 h2 h3 h4 hk
      exact hIA.keep h1 h2 h3 (by have := HS3.out; omega) (by rw [HFP.out]; exact fun q h => h.1) (HBW3.out.size) hk
    case hV =>
      intro Sr x v A B hv hk
      exact hv.keep hk (fun k hk => ⟨by omega, by omega⟩)
    case h0 =>
      intro Z hk hZ
      rw [List.filterMap_nil]
      refine ⟨hk.below HBW3.out HBW3.out.size (fun k hk => Nat.lt_of_lt_of_le hk HBW3.out.size), hk.mono (by rw [HFP.out]; exact fun q h => h.1), ⟨_, (hk.block _ X2.out.lt (by have := HS3.out; omega)).trans X2.out, RowsN.nil _ _ _ _⟩, hZ⟩
    case hAx =>
      rintro v a' A B ⟨p, u1, u2, e1, e2, hp, hc⟩ hk
      exact ⟨p, u1, u2, e1, e2, hp, (hk.block p (Array.getElem?_eq_some_iff.1 hc).1 ⟨by omega, by omega⟩).trans hc⟩
    case hassign =>
      rintro l Sr x v Z K hZ ⟨pa, pn, pc, va, vn, vc, rfl, _, _, _, _, _, _, _, _⟩ hK
      gi_wp2
      refine hK _ _ ((Below.refl _ _).alloc (Nat.le_refl _) _) ⟨Z.heap.size, _, _, rfl, rfl, hZ, World.alloc_heap_new Z _⟩
    case hbody =>
      rintro l' Sr pre f _ _ Z hpre hSr hI hv ⟨p, u1, u2, rfl, rfl, hp, hpc⟩ hZ hDo hLo
      obtain ⟨pa, pn, pc, va, vn, vc, e, hl1, hl2, hm1, hm2, hi1, hr1, hpb, hvb⟩ := hv
      simp only [Value.agg.injEq, Array.mk.injEq, List.cons.injEq, and_true] at e
      obtain ⟨rfl, rfl⟩ := e
      obtain ⟨hset, hlen⟩ := fits_facts (hpre.subset (List.mem_append_right _ (List.mem_singleton.2 rfl)))
      rw [← HWM.out] at hset
      have hBM : Boxed Z w.heap.size 23 (.slice (some ⟨b, off, none⟩) n cap) := (hI.f.block _ HB3.out.lt (by rw [HFP.out]; exact ⟨HB3.out.lt, by omega⟩)).trans HB3.out
      have hBF : Boxed Z w1.heap.size 102 (.func (.func 103) #[] #[]) := (hI.f.block _ X1.out.lt (by rw [HFP.out]; exact ⟨X1.out.lt, by omega⟩)).trans X1.out
      have hcb : Z.cell? ⟨b, off, none⟩ = some (.slice ra W rc) := (hI.b.cell (p := ⟨b, off, none⟩) hb).trans hc
      have hcm := hBM.cell
      have hcf := hBF.cell
      have hp0 : Z.cell? ⟨p, 0, none⟩ = some (.slice pa pn pc) := by simp [World.cell?, hpc]
      have hp1 : Z.cell? ⟨p, 1, none⟩ = some (.slice va vn vc) := by simp [World.cell?, hpc]
      have hmk := HMK.out
      have hpl : p < Z.heap.size := (Array.getElem?_eq_some_iff.1 hpc).1
      obtain ⟨Z1, hZ1⟩ : ∃ Z1, Z1 = Z.alloc (.cells (madeCells #[.int .i64 0] W) 3) := ⟨_, rfl⟩
      have hr0 : SpRow Z1 Z.heap.size (List.replicate W 0) := by rw [hZ1]; exact ⟨[], by rw [List.append_nil]; exact IntRow.made Z 3 W⟩
      have hbZ : Below Z.heap.size Z Z1 := by rw [hZ1]; exact (Below.refl _ _).alloc (Nat.le_refl _) _
      have HR0 := hid hr0
      have HBZ := hid hbZ
      have HZ1 := hid hZ1
      have HI := hid hI
      have HSR := hid hSr
      have HPRE := hid hpre
      have HSET := hid hset
      have HI1 := hid hi1
      have HR1 := hid hr1
      have HPB := hid hpb
      have HVB := hid hvb
      have HL1 := hid hl1
      have HL2 := hid hl2
      have HLEN := hid hlen
      have HDO := hid hDo
      have HLO := hid hLo
      have HPC := hid hpc
      have HBF := hid hBF
      clear hr0 hbZ hZ1 hI hSr hpre hset hi1 hr1 hpb hvb hl1 hl2 hlen hDo hLo hpc hBM hBF
      gi_wp2
      rw [← HZ1.out]
      clear hmk hcm hcb
      gi_loopw [13, 37] (fun okv i wr => ∃ t : Nat, t ≤ pn ∧ i = .int .i64 t ∧ okv = .bool (okTo f t) ∧ SpRow wr Z.heap.size (spreadTo1 W f t) ∧ Keep (fun k => k ≠ Z.heap.size) Z1 wr) (fun _ i _ => pn - (intOf i).toNat)
      case atStart => exact ⟨0, Nat.zero_le _, rfl, rfl, HR0.out, Keep.refl _ _⟩
      case round =>
        obtain ⟨t, ht, rfl, rfl, hr, hkp⟩ := hrel
        have hbw : Below Z.heap.size Z wr := hkp.below HBZ.out (by have := HBZ.out.size; omega) (fun k hk => by omega)
        by_cases hlt : t < pn
        · have hlt' : (t : Int) < (pn : Int) := by omega
          have ht0 : (0 : Int) ≤ (t : Int) := by omega
          obtain ⟨pb, po, rfl, hpb1, hpc1⟩ := HI1.out t (by rw [HL1.out]; exact hlt)
          have htv : t < f.2.length := by rw [HLEN.out, HL1.out]; exact hlt
          have hvn : vn = pn := by rw [← HL2.out, HLEN.out, HL1.out]
          obtain ⟨vb, vo, rfl, hvb1, hvc1, hvc2⟩ := HR1.out t htv
          have g0 : wr.cell? ⟨pb, po + t, none⟩ = some (.int .i64 (f.1[t]?.getD 0)) := (hbw.cell (p := ⟨pb, _, none⟩) hpb1).trans hpc1
          have g1 : wr.cell? ⟨vb, vo + t * 2, none⟩ = some (.int .i64 f.2[t].1) := (hbw.cell (p := ⟨vb, _, none⟩) hvb1).trans hvc1
          have g2 : wr.cell? ⟨vb, vo + t * 2 + 1, none⟩ = some (.int .i64 f.2[t].2) := (hbw.cell (p := ⟨vb, _, none⟩) hvb1).trans hvc2
          have g3 : wr.cell? ⟨p, 1, none⟩ = some (.slice (some ⟨vb, vo, none⟩) vn vc) := (hbw.cell (p := ⟨p, 1, none⟩) hpl).trans hp1
          have g4 : wr.cell? ⟨w1.heap.size, 0, none⟩ = some (.func (.func 103) #[] #[]) := (hbw.cell (p := ⟨w1.heap.size, 0, none⟩) HBF.out.lt).trans hcf
          have hpix := HSET.out.get (i := t) (by rw [HL1.out]; exact hlt)
          have hgx : f.1[t]?.getD 0 = f.1[t]'(by rw [HL1.out]; exact hlt) := by rw [List.getElem?_eq_getElem]; rfl
          rw [← hgx] at hpix
          have hsn := spreadTo1_succ W f t
          have hvx : (f.2[t]?.getD (0, 0)).1 = f.2[t].1 := by rw [List.getElem?_eq_getElem htv]; rfl
          rw [hvx] at hsn
          have hok := okTo_succ htv
          obtain ⟨x, hx⟩ : ∃ x : Nat, f.1[t]?.getD 0 = (x : Int) := ⟨(f.1[t]?.getD 0).toNat, by omega⟩
          rw [hx] at g0 hpix hsn
          rw [Int.toNat_natCast] at hsn
          obtain ⟨⟨r1, r2⟩, hrr⟩ : ∃ r, r = f.2[t] := ⟨_, rfl⟩
          rw [← hrr] at g1 g2 hsn hok
          simp only [] at g1 g2 hsn
          obtain ⟨ok, hokk⟩ : ∃ ok, ok = okTo f t := ⟨_, rfl⟩
          rw [← hokk] at hok ⊢
          clear hgx hvx hx hrr hokk
          subst hvn
          have HHR := hid hr
          have HKP := hid hkp
          have HBW := hid hbw
          have HSN := hid hsn
          have HOK := hid hok
          have hx0 : (0 : Int) ≤ (x : Int) := hpix.1
          have hxW : (x : Int) < (W : Int) := hpix.2
          have hlen : (spreadTo1 W f t).length = W := spreadTo1_len W f t
          have HLS := hid hlen
          have HLT := hid hlt
          have HWR := hid (show wrap64 ((t : Int) + 1) = ((t + 1 : Nat) : Int) by unfold maxLen at hm1; unfold wrap64; omega)
          clear hr hkp hbw hsn hok hpix hlen hpc1 hvc1 hvc2
          gi_wp2
          have HSX := hid (show ∀ X : World, Keep (fun k => k ≠ Z.heap.size) wr X → Keep (fun k => k ≠ Z.heap.size) wr X ∧ X.cell? ⟨p, 1, none⟩ = some (.slice (some ⟨vb, vo, none⟩) vn vc) ∧ X.cell? ⟨vb, vo + t * 2, none⟩ = some (.int .i64 r1) ∧ X.cell? ⟨vb, vo + t * 2 + 1, none⟩ = some (.int .i64 r2) ∧ X.cell? ⟨w1.heap.size, 0, none⟩ = some (.func (.func 103) #[] #[]) from fun X hX =>
            ⟨hX, hX.cell g3 (Nat.ne_of_lt hpl), hX.cell g1 (Nat.ne_of_lt hvb1), hX.cell g2 (Nat.ne_of_lt hvb1), hX.cell g4 (Nat.ne_of_lt HBF.out.lt)⟩)
          refine round_region (fun j w' => decide (j < 21) = true → Keep (fun k => k ≠ Z.heap.size) wr w' ∧ w'.cell? ⟨p, 1, none⟩ = some (.slice (some ⟨vb, vo, none⟩) vn vc) ∧ w'.cell? ⟨vb, vo + t * 2, none⟩ = some (.int .i64 r1) ∧ w'.cell? ⟨vb, vo + t * 2 + 1, none⟩ = some (.int .i64 r2) ∧ w'.cell? ⟨w1.heap.size, 0, none⟩ = some (.func (.func 103) #[] #[])) l' 0 (by kernel_rfl) (by kernel_rfl) (fun ⟨_, _, h⟩ => h) ?_
          have hS := HSX.out wr.drew (Keep.of_below (Below.refl wr.heap.size wr).drew)
          have hHd : SpRow wr.drew Z.heap.size (spreadTo1 W f t) := HHR.out
          have hsd : wr.heap.size ≤ wr.drew.heap.size := Nat.le_refl _
          generalize wr.drew = wd at hS hHd hsd ⊢
          clear g0 g1 g2 g3 g4
          refine AnyT.takeD (i := 0) (v := .slice (some ⟨Z.heap.size, 0, none⟩) W W) rfl rfl (by kernel_rfl) (by kernel_rfl) (by kernel_rfl) (by first | exact (fun _ _ _ h => h) | exact (fun _ _ _ h => absurd h.1 (by simp))) (by kernel_rfl) (by rfl) (by rintro w' ⟨_, q1, q2, q3, q4⟩; go_simp) hS ?_; go_frame
          refine AnyT.takeD (i := 1) (v := .int .i64 x) rfl rfl (by kernel_rfl) (by kernel_rfl) (by kernel_rfl) (by first | exact (fun _ _ _ h => h) | exact (fun _ _ _ h => absurd h.1 (by simp))) (by kernel_rfl) (by rfl) (by rintro w' ⟨_, q1, q2, q3, q4⟩; go_simp) hS ?_; go_frame
          refine AnyT.takeD (i := 2) (v := .pointer (some ⟨p, 1, none⟩)) rfl rfl (by kernel_rfl) (by kernel_rfl) (by kernel_rfl) (by first | exact (fun _ _ _ h => h) | exact (fun _ _ _ h => absurd h.1 (by simp))) (by kernel_rfl) (by rfl) (by rintro w' ⟨_, q1, q2, q3, q4⟩; go_simp) hS ?_; go_frame
          refine AnyT.takeD (i := 3) (v := .slice (some ⟨vb, vo, none⟩) vn vc) rfl rfl (by kernel_rfl) (by kernel_rfl) (by kernel_rfl) (by first | exact (fun _ _ _ h => h) | exact (fun _ _ _ h => absurd h.1 (by simp))) (by kernel_rfl) (by rfl) (by rintro w' ⟨_, q1, q2, q3, q4⟩; go_simp) hS ?_; go_frame
          refine AnyT.takeD (i := 4) (v := .int .i64 t) rfl rfl (by kernel_rfl) (by kernel_rfl) (by kernel_rfl) (by first | exact (fun _ _ _ h => h) | exact (fun _ _ _ h => absurd h.1 (by simp))) (by kernel_rfl) (by rfl) (by rintro w' ⟨_, q1, q2, q3, q4⟩; go_simp) hS ?_; go_frame
          refine AnyT.takeD (i := 5) (v := .pointer (some ⟨vb, vo + t * 2, none⟩)) rfl rfl (by kernel_rfl) (by kernel_rfl) (by kernel_rfl) (by first | exact (fun _ _ _ h => h) | exact (fun _ _ _ h => absurd h.1 (by simp))) (by kernel_rfl) (by rfl) (by rintro w' ⟨_, q1, q2, q3, q4⟩; go_simp) hS ?_; go_frame
          refine AnyT.takeD (i := 6) (v := .pointer (some ⟨vb, vo + t * 2, none⟩)) rfl rfl (by kernel_rfl) (by kernel_rfl) (by kernel_rfl) (by first | exact (fun _ _ _ h => h) | exact (fun _ _ _ h => absurd h.1 (by simp))) (by kernel_rfl) (by rfl) (by rintro w' ⟨_, q1, q2, q3, q4⟩; go_simp) hS ?_; go_frame
          refine AnyT.takeD (i := 7) (v := .int .i64 r1) rfl rfl (by kernel_rfl) (by kernel_rfl) (by kernel_rfl) (by first | exact (fun _ _ _ h => h) | exact (fun _ _ _ h => absurd h.1 (by simp))) (by kernel_rfl) (by rfl) (by rintro w' ⟨_, q1, q2, q3, q4⟩; go_simp) hS ?_; go_frame
          refine AnyT.takeD (i := 8) (v := .bool ok) rfl rfl (by kernel_rfl) (by kernel_rfl) (by kernel_rfl) (by first | exact (fun _ _ _ h => h) | exact (fun _ _ _ h => absurd h.1 (by simp))) (by kernel_rfl) (by rfl) (by rintro w' ⟨_, q1, q2, q3, q4⟩; go_simp) hS ?_; go_frame
          refine AnyT.takeD (i := 9) (v := .bool ok) rfl rfl (by kernel_rfl) (by kernel_rfl) (by kernel_rfl) (by first | exact (fun _ _ _ h => h) | exact (fun _ _ _ h => absurd h.1 (by simp))) (by kernel_rfl) (by rfl) (by rintro w' ⟨_, q1, q2, q3, q4⟩; go_simp) hS ?_; go_frame
          have HHD := hid hHd
          clear hHd
          cases ok
          · have hok2 : okTo f (t + 1) = false := by rw [HOK.out]; rfl
            refine AnyT.takeDN (i := 10) rfl rfl (by kernel_rfl) (by kernel_rfl) (by kernel_rfl) (by first | exact (fun _ _ _ h => h) | exact (fun _ _ _ h => absurd h.1 (by simp))) (by kernel_rfl) (by rfl) hS ?_; go_frame
            refine AnyT.takeDN (i := 11) rfl rfl (by kernel_rfl) (by kernel_rfl) (by kernel_rfl) (by first | exact (fun _ _ _ h => h) | exact (fun _ _ _ h => absurd h.1 (by simp))) (by kernel_rfl) (by rfl) hS ?_; go_frame
            refine AnyT.takeDN (i := 12) rfl rfl (by kernel_rfl) (by kernel_rfl) (by kernel_rfl) (by first | exact (fun _ _ _ h => h) | exact (fun _ _ _ h => absurd h.1 (by simp))) (by kernel_rfl) (by rfl) hS ?_; go_frame
            refine AnyT.takeDN (i := 13) rfl rfl (by kernel_rfl) (by kernel_rfl) (by kernel_rfl) (by first | exact (fun _ _ _ h => h) | exact (fun _ _ _ h => absurd h.1 (by simp))) (by kernel_rfl) (by rfl) hS ?_; go_frame
            refine AnyT.takeDN (i := 14) rfl rfl (by kernel_rfl) (by kernel_rfl) (by kernel_rfl) (by first | exact (fun _ _ _ h => h) | exact (fun _ _ _ h => absurd h.1 (by simp))) (by kernel_rfl) (by rfl) hS ?_; go_frame
            refine AnyT.takeDN (i := 15) rfl rfl (by kernel_rfl) (by kernel_rfl) (by kernel_rfl) (by first | exact (fun _ _ _ h => h) | exact (fun _ _ _ h => absurd h.1 (by simp))) (by kernel_rfl) (by rfl) hS ?_; go_frame
            refine AnyT.takeDN (i := 16) rfl rfl (by kernel_rfl) (by kernel_rfl) (by kernel_rfl) (by first | exact (fun _ _ _ h => h) | exact (fun _ _ _ h => absurd h.1 (by simp))) (by kernel_rfl) (by rfl) hS ?_; go_frame
            refine AnyT.takeD (i := 17) (v := .bool false) rfl rfl (by kernel_rfl) (by kernel_rfl) (by kernel_rfl) (by first | exact (fun _ _ _ h => h) | exact (fun _ _ _ h => absurd h.1 (by simp))) (by kernel_rfl) (by rfl) (by rintro w' ⟨_, q1, q2, q3, q4⟩; go_simp) hS ?_; go_frame
            refine AnyT.takeD (i := 18) (v := .pointer (some ⟨Z.heap.size, x, none⟩)) rfl rfl (by kernel_rfl) (by kernel_rfl) (by kernel_rfl) (by first | exact (fun _ _ _ h => h) | exact (fun _ _ _ h => absurd h.1 (by simp))) (by kernel_rfl) (by rfl) (by rintro w' ⟨_, q1, q2, q3, q4⟩; go_simp) hS ?_; go_frame
            refine AnyT.next (i := 19) (by kernel_rfl) rfl (wpOp_of_list rfl ?_)
            have hc9 := HHD.out.cell (j := x) (by rw [HLS.out]; omega)
            have hf9 := HHD.out.frozen x
            have hl9 := HHD.out.lt
            have hS9 := HSX.out (wd.setCell ⟨Z.heap.size, x, none⟩ (.int .i64 r1)) (hS.1.trans (Keep.set _ _ _ _))
            have hH9 := HHD.out.set x (by rw [HLS.out]; omega) r1
            rw [← HSN.out] at hH9
            have HH9 := hid hH9
            clear hH9
            go_wp2
            refine ⟨fun _ => hS9, ?_⟩
            refine AnyT.takeD (i := 20) (v := .bool false) rfl rfl (by kernel_rfl) (by kernel_rfl) (by kernel_rfl) (by first | exact (fun _ _ _ h => h) | exact (fun _ _ _ h => absurd h.1 (by simp))) (by kernel_rfl) (by rfl) (by rintro w' ⟨_, q1, q2, q3, q4⟩; go_simp) hS9 ?_; go_frame
            refine ⟨by kernel_rfl, ?_⟩
            have HS9 := hid hS9
            clear hc9 hf9 hl9 hS9
            gi_wp2
            rw [HWR.out]
            refine ⟨⟨t + 1, HLT.out, rfl, by rw [hok2], HH9.out, HKP.out.trans HS9.out.1⟩, meas2 HLT.out⟩
          · have hok1 : True := trivial
            refine AnyT.takeD (i := 10) (v := .func (.func 103) #[] #[]) rfl rfl (by kernel_rfl) (by kernel_rfl) (by kernel_rfl) (by first | exact (fun _ _ _ h => h) | exact (fun _ _ _ h => absurd h.1 (by simp))) (by kernel_rfl) (by rfl) (by rintro w' ⟨_, q1, q2, q3, q4⟩; go_simp) hS ?_; go_frame
            refine AnyT.takeD (i := 11) (v := .pointer (some ⟨p, 1, none⟩)) rfl rfl (by kernel_rfl) (by kernel_rfl) (by kernel_rfl) (by first | exact (fun _ _ _ h => h) | exact (fun _ _ _ h => absurd h.1 (by simp))) (by kernel_rfl) (by rfl) (by rintro w' ⟨_, q1, q2, q3, q4⟩; go_simp) hS ?_; go_frame
            refine AnyT.takeD (i := 12) (v := .slice (some ⟨vb, vo, none⟩) vn vc) rfl rfl (by kernel_rfl) (by kernel_rfl) (by kernel_rfl) (by first | exact (fun _ _ _ h => h) | exact (fun _ _ _ h => absurd h.1 (by simp))) (by kernel_rfl) (by rfl) (by rintro w' ⟨_, q1, q2, q3, q4⟩; go_simp) hS ?_; go_frame
            refine AnyT.takeD (i := 13) (v := .int .i64 t) rfl rfl (by kernel_rfl) (by kernel_rfl) (by kernel_rfl) (by first | exact (fun _ _ _ h => h) | exact (fun _ _ _ h => absurd h.1 (by simp))) (by kernel_rfl) (by rfl) (by rintro w' ⟨_, q1, q2, q3, q4⟩; go_simp) hS ?_; go_frame
            refine AnyT.takeD (i := 14) (v := .pointer (some ⟨vb, vo + t * 2, none⟩)) rfl rfl (by kernel_rfl) (by kernel_rfl) (by kernel_rfl) (by first | exact (fun _ _ _ h => h) | exact (fun _ _ _ h => absurd h.1 (by simp))) (by kernel_rfl) (by rfl) (by rintro w' ⟨_, q1, q2, q3, q4⟩; go_simp) hS ?_; go_frame
            refine AnyT.takeD (i := 15) (v := .agg #[.int .i64 r1, .int .i64 r2]) rfl rfl (by kernel_rfl) (by kernel_rfl) (by kernel_rfl) (by first | exact (fun _ _ _ h => h) | exact (fun _ _ _ h => absurd h.1 (by simp))) (by kernel_rfl) (by rfl) (by rintro w' ⟨_, q1, q2, q3, q4⟩; go_simp) hS ?_; go_frame
            refine AnyT.next (i := 16) (by kernel_rfl) rfl (wpOp_of_list rfl ?_)
            have HWH := hid (whole1 wd (r1, r2) wd (Below.refl _ _))
            go_wp2_with (go_at_call 103; refine HWH.out.mono ?_; rintro e w7 ⟨rfl, hb7⟩; refine Stop.of ?_)
            refine Stop.go ?_
            have hS7 := HSX.out w7 (hS.1.trans (Keep.of_below hb7))
            have HH7 := hid (HHD.out.keep (hb7.block _ HHD.out.lt))
            go_wp2
            refine ⟨fun _ => hS7, ?_⟩
            clear hS hb7
            obtain ⟨wr0, hwr0⟩ : ∃ b, b = wholeR (r1, r2) := ⟨_, rfl⟩
            rw [← hwr0]
            have hok2 : okTo f (t + 1) = wr0 := by rw [HOK.out, hwr0]; rfl
            clear hwr0
            refine AnyT.takeD (i := 17) (v := .bool wr0) rfl rfl (by kernel_rfl) (by kernel_rfl) (by kernel_rfl) (by first | exact (fun _ _ _ h => h) | exact (fun _ _ _ h => absurd h.1 (by simp))) (by kernel_rfl) (by rfl) (by rintro w' ⟨_, q1, q2, q3, q4⟩; go_simp) hS7 ?_; go_frame
            refine AnyT.takeD (i := 18) (v := .pointer (some ⟨Z.heap.size, x, none⟩)) rfl rfl (by kernel_rfl) (by kernel_rfl) (by kernel_rfl) (by first | exact (fun _ _ _ h => h) | exact (fun _ _ _ h => absurd h.1 (by simp))) (by kernel_rfl) (by rfl) (by rintro w' ⟨_, q1, q2, q3, q4⟩; go_simp) hS7 ?_; go_frame
            refine AnyT.next (i := 19) (by kernel_rfl) rfl (wpOp_of_list rfl ?_)
            have hc9 := HH7.out.cell (j := x) (by rw [HLS.out]; omega)
            have hf9 := HH7.out.frozen x
            have hl9 := HH7.out.lt
            have hS9 := HSX.out (w7.setCell ⟨Z.heap.size, x, none⟩ (.int .i64 r1)) (hS7.1.trans (Keep.set _ _ _ _))
            have hH9 := HH7.out.set x (by rw [HLS.out]; omega) r1
            rw [← HSN.out] at hH9
            have HH9 := hid hH9
            clear hH9
            go_wp2
            refine ⟨fun _ => hS9, ?_⟩
            refine AnyT.takeD (i := 20) (v := .bool wr0) rfl rfl (by kernel_rfl) (by kernel_rfl) (by kernel_rfl) (by first | exact (fun _ _ _ h => h) | exact (fun _ _ _ h => absurd h.1 (by simp))) (by kernel_rfl) (by rfl) (by rintro w' ⟨_, q1, q2, q3, q4⟩; go_simp) hS9 ?_; go_frame
            refine ⟨by kernel_rfl, ?_⟩
            have HS9 := hid hS9
            clear hc9 hf9 hl9 hS9
            gi_wp2
            rw [HWR.out]
            refine ⟨⟨t + 1, HLT.out, rfl, by rw [hok2], HH9.out, HKP.out.trans HS9.out.1⟩, meas2 HLT.out⟩
        · obtain rfl : t = pn := by omega
          have HOKA := hid (show okTo f t = f.2.all wholeR by rw [← okTo_all, HLEN.out, HL1.out])
          have HSP := hid (show spreadTo1 W f t = spreadI W f by unfold spreadI; rw [HL1.out])
          rw [HOKA.out] at *
          have HHR := hid hr
          have HKP := hid hkp
          have HBW := hid hbw
          have hlt' : decide ((t : Int) < (t : Int)) = false := by simp
          have HWO := hid (show wholeOne W f = if f.2.all wholeR = true then some (spreadI W f) else none from rfl)
          obtain ⟨ok, hokk⟩ : ∃ ok, ok = f.2.all wholeR := ⟨_, rfl⟩
          rw [← hokk] at HWO ⊢
          clear hr hkp hbw hokk HOKA
          cases ok
          · have hno : wholeOne W f = none := by rw [HWO.out]; rfl
            have HNO := hid hno
            clear hno HWO
            gi_wp2
            refine ⟨HBW.out.size, fun k hk => HBW.out.block k ?_, ?_⟩
            · rcases hk with h | h | h | h
              · rw [HFP.out] at h; have := h.1; omega
              · omega
              · omega
              · exact (HSR.out k h).2
            · show WholeI w w3 (w1.heap.size + 1) fp Sr ((pre ++ [f]).filterMap (wholeOne W)) wr
              rw [List.filterMap_append, List.filterMap_cons_none HNO.out, List.filterMap_nil, List.append_nil]
              exact HI.out.keep (fun _ h => h) (fun _ h => .inl h) (fun k h => (HSR.out k h).1) (by have := HS3.out; omega) (by rw [HFP.out]; exact fun q h => h.1) HBW3.out.size (Keep.of_below HBW.out)
          · have hyes : wholeOne W f = some (spreadI W f) := by rw [HWO.out]; rfl
            obtain ⟨v, hvb, vs, ho, hg, he⟩ := HI.out.o
            obtain ⟨C, hC⟩ : ∃ C, C = pre.filterMap (wholeOne W) := ⟨_, rfl⟩
            have HCL := hid (show C.length ≤ 20000 by
              rw [hC]
              have h1 := List.length_filterMap_le (wholeOne W) pre
              have h2 := HPRE.out.length_le
              simp only [List.length_append, List.length_singleton] at h2
              have h3 := fitsTo_count M y (colsM M) (min (min q (colsM M)) M.length + 1)
              have h4 : 2 ^ (colsM M) ≤ 1024 := Nat.pow_le_pow_right (by omega) (show colsM M ≤ 10 by rw [← HWM.out]; exact hc10)
              have h5 : (min (min q (colsM M)) M.length + 1) * 2 ^ (colsM M) ≤ 11 * 1024 := Nat.mul_le_mul (by omega) h4
              have h6 : (fitsF M y q).length = (fitsTo M y (colsM M) (min (min q (colsM M)) M.length + 1)).length := rfl
              omega)
            rw [← hC] at ho he
            have hIC := HI.out
            rw [← hC] at hIC
            have HIC := hid hIC
            have hRO := RowsN.keep (W' := wr) ⟨vs, ho, hg, he⟩ (Keep.of_below HBW.out) (fun b hb _ => ⟨hb, hb⟩)
            have hBo : Boxed wr (w1.heap.size + 1) 22 v := (HBW.out.block _ hvb.lt).trans hvb
            obtain ⟨vs', ho', hg', he'⟩ := hRO
            have HO := hid ho'
            have HG := hid hg'
            have HE := hid he'
            have HBO := hid hBo
            have hbc := hBo.cell
            have hbf := hBo.frozen
            have hbl := hBo.lt
            have HYES := hid hyes
            have HC := hid hC
            have hZw : w3.heap.size + 2 ≤ wr.heap.size := Nat.le_trans HI.out.z HBW.out.size
            have M1 := hid (show C.length + 1 ≤ maxLen by have := HCL.out; unfold maxLen; omega)
            have M2 := hid (show (C.length + 1) * 24 ≤ 140737488355328 by have := HCL.out; omega)
            have M3 := hid (show w3.heap.size + 2 ≤ (wr.alloc (.cells #[.slice (some ⟨Z.heap.size, 0, none⟩) W W] 33)).heap.size by simp; omega)
            obtain ⟨i0, hi0, hz0, hz1, hz2⟩ := info_parts li_ints
            clear hyes hvb ho hg he ho' hg' he' hIC hBo hC
            gi_wp2_with (gi_at_builtin; go_loud (refine wpListIn_append_own_at _ rfl _ _ 22 rfl (w3.heap.size + 2) 33 i0 (.slice none 0 0) 1 24 Tryz.underlying22 hi0 hz0 hz1 hz2 rfl (by decide) v _ _ rfl (HO.out.alloc _) ⟨wr.heap.size, 0, none⟩ 1 1 [.slice (some ⟨Z.heap.size, 0, none⟩) W W] rfl rfl (one_news wr _ _ _ rfl) (slice_oneCell _ _ _) M1.out M2.out M3.out ?_; refine Stop.of ?_))
            refine Stop.go ?_
            intro v5 w9 own5 g5 _ hat5
            obtain ⟨a5, c5, rfl⟩ := ownsRow_slice own5
            have hb9 : Boxed w9 (w1.heap.size + 1) 22 v := (HBO.out.alloc _).kept g5 (fun e => (HG.out _ e.symm).2.1 rfl)
            have hc9 := hb9.cell
            have hf9 := hb9.frozen
            have hl9 := hb9.lt
            have hrl : (spreadI W f).length = W := by unfold spreadI; exact spreadTo1_len W f _
            have hpush := WholeI.push (r := spreadI W f) (cap := W) HIC.out HBO.out HBW.out HO.out HG.out HE.out (by rw [← HSP.out]; exact HHR.out) (by rw [hrl]; exact Nat.le_trans hc10 (by decide)) g5 (by rw [hrl]; exact own5) (by rw [World.size_alloc]; exact hat5) HSR.out (by have := HS3.out; omega) (by rw [HFP.out]; exact fun k h => h) (by omega)
            have HPU := hid hpush
            clear hb9 hrl hpush own5 g5 hat5
            gi_wp2
            obtain ⟨r1, r2, r3⟩ := HPU.out
            refine ⟨r1, r2, ?_⟩
            show WholeI w w3 (w1.heap.size + 1) fp Sr ((pre ++ [f]).filterMap (wholeOne W)) _
            rw [List.filterMap_append, List.filterMap_cons_some HYES.out, List.filterMap_nil, ← HC.out]
            exact r3
    case hdone =>
      intro Sr Z hZ hSr hI hmk
      obtain ⟨v, hvb, hro⟩ := hI.o
      have hcv := hvb.cell
      have HI := hid hI
      have HRO := hid hro
      have HMR := hid hmk
      clear hI hvb hro hmk hSr
      gi_wp2
      refine marks_leave [w3.heap.size] Z (by simp) (fun h hh => by rw [List.mem_singleton.1 hh]; exact HMR.out) fun w' hk => ?_
      refine ⟨_, results_tmp2 rfl _ _ _, HPOST.out _ _ (hk.below HI.out.b HI.out.b.size (fun k hk hh => by rw [List.mem_singleton.1 hh] at hk; have := HBW3.out.size; omega)) ⟨v, rfl, w3.heap.size + 2, by have := HBW3.out.size; omega, ?_⟩⟩
      have h1 := RowsN.keep (W' := w') (S' := fun _ => True) HRO.out hk (fun q hq _ => ⟨fun hh => hq.2.2.1 (List.mem_singleton.1 hh), trivial⟩)
      rw [HWM.out] at h1
      exact h1
    case hstop =>
      intro Sr c pre Z hpre hSr hI hmk
      exact hI.elim
  · have hne : (countE M y k != 0) = true := by simp [h0]
    have HPOST := hid (show ∀ w', Below w.heap.size w w' → WholePost w M y k (.returned (.tuple #[.slice none 0 0, .int .i64 (countE M y k)])) w' from fun w' hb => ⟨hb, .inl ⟨h0, rfl⟩⟩)
    obtain ⟨E, hE⟩ : ∃ E, E = countE M y k := ⟨_, rfl⟩
    rw [← hE] at HC HPOST hne
    clear hn hn2 H H2 h0 hE
    refine callsIn_wide (n := 0) |>.1 ?_
    refine callsIn_of_wp_marks Tryz.func84 rfl trivial ?_ rfl
    simp only [Tryz.ntmps84, List.size_toArray, List.length_cons, List.length_nil, Nat.reduceAdd, Nat.reduceSub, Array.replicate_succ, Array.replicate_zero, List.push_toArray, List.append_toArray, List.nil_append, List.cons_append]
    gi_wp2_with (refine ⟨trivial, rfl, ?_⟩; gi_at_call 102; refine (callsIn_wide.2 (HC.out _ ((Below.refl _ w).alloc (Nat.le_refl _) _))).mono ?_; rintro e w1 ⟨rfl, hb1⟩; refine Stop.of ?_)
    refine Stop.go ?_
    gi_wp2
    refine ⟨_, results_tmp2 rfl _ _ _, ?_⟩
    exact HPOST.out _ (chain ((Below.refl _ w).alloc (Nat.le_refl _) _) hb1)
end Go.Proofs.YtkmjeegnijohmaaGreat

namespace Go.Proofs.YtkmjeegnijohmaaGreat
open Go.RowKit
set_option linter.unusedVariables false

theorem info_int : (Tryz.prog.info? 3).map (fun i => (i.zero, i.size, i.bytes)) = some (some (.int .i64 0), 1, 8) := by kernel_rfl
theorem info_ints : (Tryz.prog.info? 33).map (fun i => (i.zero, i.size, i.bytes)) = some (some (.slice none 0 0), 1, 24) := by kernel_rfl

theorem listed1 (w : World) (b : Nat) (hb : b < w.heap.size) (hc : w.cell? ⟨b, 0, none⟩ = some (.int .i64 1000000)) : PredI Tryz.prog 122 #[.pointer (some ⟨b, 0, none⟩)] w (fun n => inB n (-1000000) 1000000) := by
  intro x W hbw
  have hc' : W.cell? ⟨b, 0, none⟩ = some (.int .i64 1000000) := (hbw.cell (p := ⟨b, 0, none⟩) hb).trans hc
  go_enter Tryz.func122, Tryz.ntmps122
  go_wp2_with (go_at_call 71; refine (mwithin_c _ _ _ _).mono ?_; rintro e w1 ⟨rfl, rfl⟩)
  go_ret
  exact ⟨rfl, Below.refl _ _⟩

def shownE (M : Mask) (x : List Int) : Int := if okM M = true then (if x.length = colsM M then (if x.all (fun n => inB n (-1000000) 1000000) = true then 0 else 7) else 9) else 1
def okShown (M : Mask) (x : List Int) : Bool := okM M && decide (x.length = colsM M) && x.all (fun n => inB n (-1000000) 1000000)
theorem okShown_iff (M : Mask) (x : List Int) : (shownE M x == 0) = okShown M x := by
  unfold shownE okShown
  cases okM M <;> simp
  by_cases h : x.length = colsM M <;> simp [h]
  split
  · rename_i h2; simp; exact h2
  · rename_i h2; simp; simpa using h2

theorem listed_c (w : World) (a : Option Addr) (n cap : Nat) (M : Mask) (hn : M.length = n) (hm : n ≤ maxLen) (H : RowsAt w a M) (a2 : Option Addr) (n2 cap2 : Nat) (x : List Int) (hn2 : x.length = n2) (hm2 : n2 ≤ maxLen) (H2 : IntsAt w a2 x)
    (g : Nat) (lb : Array Value) (eg : ∀ args w, (callFunc g args).run Tryz.prog w = .ok (.enter g args) w) (hg : okM M = true → ∀ W, Below w.heap.size w W → Calls Tryz.prog g lb W fun e W' => e = .returned (.int .i64 (colsM M)) ∧ W = W') :
    Calls Tryz.prog 108 #[.slice a n cap, .slice a2 n2 cap2, .func (.func g) #[] lb, .int .i64 1000000] w fun e w' => e = .returned (.int .i64 (shownE M x)) ∧ Below w.heap.size w w' := by
  have hb0 : Below w.heap.size w (w.alloc (.cells #[.int .i64 1000000] 3)) := (Below.refl _ _).alloc (Nat.le_refl _) _
  have hmf : ∀ (fn : Fn) (first cap : Array Value) (w : World), (Instr.makeFunc fn first cap).run Tryz.prog w = .ok (.func fn first cap) w := fun _ _ _ _ => rfl
  have HV := hid (maskValid_c (w.alloc (.cells #[.int .i64 1000000] 3)) a n cap M hn hm (H.below hb0))
  have HA := hid (fun (W : World) (hb : Below w.heap.size w W) (hs : w.heap.size < W.heap.size) (hc : W.cell? ⟨w.heap.size, 0, none⟩ = some (.int .i64 1000000)) => allI_c W a2 n2 cap2 x hn2 hm2 (H2.below hb) 122 #[.pointer (some ⟨w.heap.size, 0, none⟩)] _ (enters_of Tryz.func122 (by kernel_rfl) rfl) (listed1 W w.heap.size hs hc))
  have hcell : ∀ W, Below (w.alloc (.cells #[.int .i64 1000000] 3)).heap.size (w.alloc (.cells #[.int .i64 1000000] 3)) W → w.heap.size < W.heap.size ∧ W.cell? ⟨w.heap.size, 0, none⟩ = some (.int .i64 1000000) := fun W hb => by
    have h1 := hb.size
    simp at h1
    refine ⟨by omega, (hb.cell (p := ⟨w.heap.size, 0, none⟩) (by simp)).trans ?_⟩
    rw [World.cell?_alloc_at _ _ _ _ rfl]; rfl
  have HC := hid hcell
  have HN2 := hid hn2
  have HG := hid hg
  have HB := hid hb0
  clear hn H H2 hcell hg hn2 hb0
  cases hv : okM M
  · rw [hv] at HV
    have HE := hid hv
    clear hv
    go_enter Tryz.func108, Tryz.ntmps108
    go_wp2_with (go_at_call 52; refine HV.out.mono ?_; rintro e w1 ⟨rfl, hb1⟩)
    go_ret
    exact ⟨ret_int (by unfold shownE; rw [HE.out]; simp), chain HB.out hb1⟩
  · rw [hv] at HV
    have HE := hid hv
    have HG2 := hid (HG.out hv)
    clear hv HG
    by_cases h : n2 = colsM M
    · have hd : ((n2 : Int) != (colsM M : Int)) = false := by simp [h]
      have HQ := hid h
      clear h
      cases hx : x.all (fun n => inB n (-1000000) 1000000)
      all_goals
        rw [hx] at HA
        have HX := hid hx
        clear hx
        go_enter Tryz.func108, Tryz.ntmps108
        go_wp2_with (first | (go_at_call 52; refine HV.out.mono ?_; rintro e w1 ⟨rfl, hb1⟩) | (go_at_call 93; refine (HA.out _ (chain HB.out hb1) (HC.out _ hb1).1 (HC.out _ hb1).2).mono ?_; rintro e w2 ⟨rfl, hb2⟩) | (refine (HG2.out _ (chain HB.out hb1)).mono ?_; rintro e w3 ⟨rfl, rfl⟩))
        go_ret
        exact ⟨ret_int (by unfold shownE; rw [HE.out, if_pos rfl, if_pos (HN2.out.trans HQ.out), HX.out]; simp), chain (chain HB.out hb1) hb2⟩
    · have hd : ((n2 : Int) != (colsM M : Int)) = true := by simp; omega
      have HQ := hid h
      clear h
      go_enter Tryz.func108, Tryz.ntmps108
      go_wp2_with (first | (go_at_call 52; refine HV.out.mono ?_; rintro e w1 ⟨rfl, hb1⟩) | (refine (HG2.out _ (chain HB.out hb1)).mono ?_; rintro e w3 ⟨rfl, rfl⟩))
      go_ret
      exact ⟨ret_int (by unfold shownE; rw [HE.out, if_pos rfl, if_neg (by rw [HN2.out]; exact HQ.out)]), chain HB.out hb1⟩

theorem okM_len {M : Mask} (h : okM M = true) : 1 ≤ M.length ∧ M.length ≤ 6 ∧ 1 ≤ colsM M ∧ colsM M ≤ 10 ∧ ∀ l ∈ M, l.length = colsM M ∧ ∀ n ∈ l, -1 ≤ n ∧ n ≤ 1 := by
  unfold okM at h
  simp only [Bool.and_eq_true, List.all_eq_true, decide_eq_true_eq] at h
  obtain ⟨h1, h2⟩ := h
  simp [inB] at h1
  have hr : ∀ l ∈ M, l.length = colsM M ∧ (1 ≤ l.length ∧ l.length ≤ 10) ∧ ∀ n ∈ l, -1 ≤ n ∧ n ≤ 1 := by
    intro l hl
    obtain ⟨e, hrow⟩ := h2 l hl
    unfold okMRow at hrow
    simp only [Bool.and_eq_true, List.all_eq_true] at hrow
    refine ⟨e, ?_, fun n hn => ?_⟩
    · have := hrow.1; simp [inB] at this; omega
    · have := hrow.2 n hn; simpa [inB] using this
  have h0 : 0 < M.length := by omega
  have hc := hr M[0] (List.getElem_mem h0)
  refine ⟨by omega, by omega, by omega, by omega, fun l hl => ⟨(hr l hl).1, (hr l hl).2.2⟩⟩

theorem shown1 (w : World) (b : Nat) (a : Option Addr) (n cap : Nat) (M : Mask) (hn : M.length = n) (hm : n ≤ maxLen) (H : RowsAt w a M) (hb : b < w.heap.size) (hc : w.cell? ⟨b, 0, none⟩ = some (.slice a n cap)) (h0 : 0 < n) (W : World) (hbw : Below w.heap.size w W) :
    Calls Tryz.prog 109 #[.pointer (some ⟨b, 0, none⟩)] W fun e W' => e = .returned (.int .i64 (colsM M)) ∧ W = W' := by
  have hc' : W.cell? ⟨b, 0, none⟩ = some (.slice a n cap) := (hbw.cell (p := ⟨b, 0, none⟩) hb).trans hc
  obtain ⟨b', off, qa, qn, qc, rfl, hbs, hq0, hqn, hqm, hqi⟩ := (H.below hbw) 0 (by omega)
  have HCols : colsM M = qn := by unfold colsM; rw [List.getElem?_eq_getElem (by omega), ← hqn]; rfl
  have HCO := hid HCols
  unfold maxLen at hm
  simp only [Nat.add_zero] at hq0
  clear HCols hqn hqi H hc
  go_enter Tryz.func109, Tryz.ntmps109
  go_wp2
  go_ret
  exact ⟨ret_int (by rw [HCO.out]), rfl⟩

theorem mshown_c (w : World) (a : Option Addr) (n cap : Nat) (M : Mask) (hn : M.length = n) (hm : n ≤ maxLen) (H : RowsAt w a M) (a2 : Option Addr) (n2 cap2 : Nat) (x : List Int) (hn2 : x.length = n2) (hm2 : n2 ≤ maxLen) (H2 : IntsAt w a2 x) :
    Calls Tryz.prog 90 #[.slice a n cap, .slice a2 n2 cap2] w fun e w' => e = .returned (.int .i64 (shownE M x)) ∧ Below w.heap.size w w' := by
  have hb0 : Below w.heap.size w (w.alloc (.cells #[.slice a n cap] 23)) := (Below.refl _ _).alloc (Nat.le_refl _) _
  have hmf : ∀ (fn : Fn) (first cap : Array Value) (w : World), (Instr.makeFunc fn first cap).run Tryz.prog w = .ok (.func fn first cap) w := fun _ _ _ _ => rfl
  have HL := hid (listed_c (w.alloc (.cells #[.slice a n cap] 23)) a n cap M hn hm (H.below hb0) a2 n2 cap2 x hn2 hm2 (H2.below hb0) 109 #[.pointer (some ⟨w.heap.size, 0, none⟩)] (enters_of Tryz.func109 (by kernel_rfl) rfl)
    (fun hk W hb => by
      have := okM_len hk
      exact shown1 _ w.heap.size a n cap M hn hm (H.below hb0) (by simp) (by rw [World.cell?_alloc_at _ _ _ _ rfl]; rfl) (by omega) W hb))
  clear hn H hn2 H2
  go_enter Tryz.func90, Tryz.ntmps90
  go_wp2_with (go_at_call 108; refine HL.out.mono ?_; rintro e w1 ⟨rfl, hb1⟩)
  go_ret
  exact ⟨rfl, chain hb0 hb1⟩

def dotTo (row x : List Int) : Nat → Int
  | 0 => 0
  | k + 1 => wrap64 (dotTo row x k + wrap64 (row[k]?.getD 0 * x[k]?.getD 0))
def dotW (row x : List Int) : Int := dotTo row x row.length

theorem times_c (w : World) (a a2 : Option Addr) (n cap n2 cap2 : Nat) (row x : List Int) (hn : row.length = n) (hn2 : x.length = n2) (hle : n ≤ n2) (hm : n ≤ maxLen) (H : IntsAt w a row) (H2 : IntsAt w a2 x) :
    Calls Tryz.prog 91 #[.slice a n cap, .slice a2 n2 cap2] w fun e w' => e = .returned (.int .i64 (dotW row x)) ∧ w = w' := by
  have HN := hid hn
  have HN2 := hid hn2
  have HH := hid H
  have HH2 := hid H2
  clear hn hn2 H H2
  unfold maxLen at hm
  go_enter Tryz.func91, Tryz.ntmps91
  go_wp2
  go_loop [5, 10] (fun s i => ∃ k : Nat, k ≤ n ∧ i = .int .i64 k ∧ s = .int .i64 (dotTo row x k)) (fun _ i => n - (intOf i).toNat)
  case atStart => exact ⟨0, Nat.zero_le _, rfl, rfl⟩
  case round =>
    obtain ⟨k, hk, rfl, rfl⟩ := hrel
    by_cases hlt : k < n
    · obtain ⟨b, off, rfl, _, h1⟩ := HH.out k (by rw [HN.out]; exact hlt)
      obtain ⟨b2, off2, rfl, _, h2⟩ := HH2.out k (by rw [HN2.out]; omega)
      have h3 : k < n2 := by omega
      go_wp2
      go_round
      case rel => exact ⟨k + 1, by omega, by go_num, rfl⟩
      case measure => simp [intOf]; omega
    · have : k = n := by omega
      subst this
      go_wp2
      go_ret
      refine ⟨ret_int ?_, rfl⟩
      unfold dotW; rw [HN.out]

def readM (M : Mask) (x : List Int) : List Int := M.map (fun r => dotW r x)

theorem readM_take (M : Mask) (x : List Int) (k : Nat) (hk : k < M.length) : (readM (M.take (k + 1)) x) = readM (M.take k) x ++ [dotW M[k] x] := by
  unfold readM
  rw [List.take_succ_eq_append_getElem hk, List.map_append]; rfl

theorem one_int (x : Int) : ∀ u ∈ [Value.int .i64 x], u.oneCell' = true := by intro u hu; simp at hu; subst hu; rfl

set_option maxHeartbeats 2000000 in
theorem maskRead_c (w : World) (a : Option Addr) (n cap : Nat) (M : Mask) (hn : M.length = n) (hm : n ≤ maxLen) (H : RowsAt w a M) (a2 : Option Addr) (n2 cap2 : Nat) (x : List Int) (hn2 : x.length = n2) (hm2 : n2 ≤ maxLen) (H2 : IntsAt w a2 x) (hE : shownE M x = 0) :
    Calls Tryz.prog 70 #[.slice a n cap, .slice a2 n2 cap2] w fun e w' => ∃ v base, e = .returned (.tuple #[v, .int .i64 0]) ∧ w.heap.size ≤ base ∧ w'.ownsRow base 3 1 v n ((readM M x).map (Value.int .i64)) ∧ Below w.heap.size w w' := by
  have HS := hid (mshown_c w a n cap M hn hm H a2 n2 cap2 x hn2 hm2 H2)
  rw [hE] at HS
  have hok : okShown M x = true := by rw [← okShown_iff, hE]; rfl
  unfold okShown at hok
  simp only [Bool.and_eq_true, decide_eq_true_eq] at hok
  obtain ⟨⟨hM, hc⟩, _⟩ := hok
  obtain ⟨m1, m6, c1, c10, hrows⟩ := okM_len hM
  have hn6 : n ≤ 6 := by omega
  have HT := hid (fun (W : World) (hb : Below w.heap.size w W) (ra : Option Addr) (rn rc : Nat) (r : List Int) (hr : r ∈ M) (hrn : r.length = rn) (hri : IntsAt W ra r) => times_c W ra a2 rn rc n2 cap2 r x hrn hn2 (by have := (hrows r hr).1; omega) (by have := (hrows r hr).1; unfold maxLen; omega) hri (H2.below hb))
  have HN := hid hn
  have HH := hid H
  clear hn H hn2 H2 hrows hE hM hc m1 m6 c1 c10
  go_enter Tryz.func70, Tryz.ntmps70
  go_wp2_with (go_at_call 90; refine HS.out.mono ?_; rintro e w1 ⟨rfl, hb1⟩)
  go_loopw [7, 18] (fun v i wr => ∃ k : Nat, k ≤ n ∧ i = .int .i64 k ∧ wr.ownsRow w1.heap.size 3 1 v k ((readM (M.take k) x).map (Value.int .i64)) ∧ Below w1.heap.size w1 wr) (fun _ i _ => n - (intOf i).toNat)
  case atStart => exact ⟨0, Nat.zero_le _, rfl, World.ownsRow_nil _ _ _ _, Below.refl _ _⟩
  case round =>
    obtain ⟨k, hk, rfl, hown, hbk⟩ := hrel
    by_cases hlt : k < n
    · have hkM : k < M.length := by rw [HN.out]; exact hlt
      have hbw := chain hb1 hbk
      obtain ⟨b, off, ra, rn, rc, rfl, hbs, hq0, hrn, hrm, hri⟩ := (HH.out.below hbw) k hkM
      have HT1 := hid (HT.out wr hbw ra rn rc M[k] (List.getElem_mem hkM) hrn hri)
      obtain ⟨D, hD⟩ : ∃ D, D = dotW M[k] x := ⟨_, rfl⟩
      rw [← hD] at HT1
      have htk := readM_take M x k hkM
      rw [← hD] at htk
      have HTK := hid htk
      obtain ⟨va, vc, rfl⟩ := ownsRow_slice hown
      have HO := hid hown
      have M1 := hid (show k + 1 ≤ maxLen by unfold maxLen; omega)
      have M2 := hid (show (k + 1) * 8 ≤ 140737488355328 by omega)
      have M3 := hid (Nat.le_trans hbk.size (le_alloc wr (.cells #[.int .i64 D] 3)))
      clear hown htk hD hrn hri hkM
      go_wp2_with (first | (go_at_call 91; refine HT1.out.mono ?_; rintro e w2 ⟨rfl, rfl⟩) | (at_builtin; refine wpList_app _ rfl (.tmp 22) (.tmp 26) 33 rfl w1.heap.size 3 (.int .i64 0) 1 8 Tryz.underlying33 info_int rfl Nat.one_pos (.slice va k vc) k _ rfl (HO.out.alloc _) (some ⟨wr.heap.size, 0, none⟩) 1 1 [.int .i64 D] rfl rfl no_none (one_news wr _ _) (one_int _) M1.out M2.out M3.out ?_; refine Stop.of ?_))
      refine Stop.go ?_
      intro a3 c3 w3 own3 g3
      have hB3 : Below w1.heap.size w1 w3 := (hbk.alloc hbk.size _).grown g3 (Nat.le_trans hbk.size (le_alloc _ _)) (fun k hk => (HO.out.lt k hk).1)
      go_wp2
      refine ⟨⟨k + 1, by omega, by go_num, ?_, hB3⟩, by simp [intOf]; omega⟩
      rw [HTK.out]
      simpa using own3
    · obtain rfl : k = n := by omega
      go_wp2
      go_ret2
      refine ⟨_, w1.heap.size, rfl, hb1.size, ?_, chain hb1 hbk⟩
      rw [← HN.out, List.take_length] at hown
      rw [HN.out] at hown
      exact hown
end Go.Proofs.YtkmjeegnijohmaaGreat

namespace Go.Proofs.YtkmjeegnijohmaaGreat
open Go.RowKit
set_option linter.unusedVariables false

theorem dotTo_sm {row x : List Int} (h1 : BndL 67108864 row) (h2 : BndL 67108864 x) : ∀ k : Nat, k ≤ 1000 → dotTo row x k = sm (fun c => vec row c * vec x c) k
  | 0, _ => by simp [dotTo, sm]
  | k + 1, hk => by
    have ih := dotTo_sm h1 h2 k (by omega)
    have hb := dot_le h1 h2 (k + 1)
    have hb0 := dot_le h1 h2 k
    simp only [dotTo, sm] at hb ⊢
    rw [ih]
    have e1 : row[k]?.getD 0 = vec row k := rfl
    have e2 : x[k]?.getD 0 = vec x k := rfl
    rw [e1, e2]
    have hp : (vec row k * vec x k).natAbs ≤ 4503599627370496 + 4503599627370496 * 1001 + 4503599627370496 * 1001 := by omega
    have hw : wrap64 (vec row k * vec x k) = vec row k * vec x k := by unfold wrap64; omega
    rw [hw]
    unfold wrap64; omega
theorem dotW_dotV {row x : List Int} (h1 : BndL 67108864 row) (h2 : BndL 67108864 x) (hl : row.length ≤ 1000) : dotW row x = dotV row x := dotTo_sm h1 h2 _ hl
end Go.Proofs.YtkmjeegnijohmaaGreat

namespace Go.Proofs.YtkmjeegnijohmaaGreat
open Go.RowKit
set_option linter.unusedVariables false

def picB (M : Mask) (x : List Int) : Bool := decide (x.length = colsM M) && x.all (fun n => inB n (-1000) 1000)
def picsB (M : Mask) (p : List (List Int)) : Bool := okM M && inB p.length 1 60 && p.all (picB M)

theorem swithin_c (n lo hi : Int) (w : World) : Calls Tryz.prog 32 #[.int .i64 n, .int .i64 lo, .int .i64 hi] w fun e w' => e = .returned (.bool (inB n lo hi)) ∧ w = w' := by
  go_enter Tryz.func32, Tryz.ntmps32
  go_wp2
  all_goals
    go_ret
    refine ⟨ret_bool ?_, rfl⟩
    unfold inB
    rw [Bool.eq_iff_iff]
    simp
    try omega

theorem pic1 (w : World) : PredI Tryz.prog 77 #[] w (fun n => !inB n (-1000) 1000) := by
  intro x W hb
  obtain ⟨b, hbb⟩ : ∃ b, b = inB x (-1000) 1000 := ⟨_, rfl⟩
  have HW := hid (fun X => swithin_c x (-1000) 1000 X)
  show Calls _ _ #[.int .i64 x] W fun e W' => e = .returned (.bool (!inB x (-1000) 1000)) ∧ Below W.heap.size W W'
  rw [← hbb] at HW ⊢
  clear hbb
  go_enter Tryz.func77, Tryz.ntmps77
  go_wp2_with (go_at_call 32; refine (HW.out _).mono ?_; rintro e w1 ⟨rfl, rfl⟩)
  go_ret
  exact ⟨rfl, Below.refl _ _⟩

theorem picture_c (w : World) (a : Option Addr) (n cap : Nat) (M : Mask) (hn : M.length = n) (h1 : 1 ≤ n) (H : RowsAt w a M) (a2 : Option Addr) (n2 cap2 : Nat) (x : List Int) (hn2 : x.length = n2) (hm2 : n2 ≤ maxLen) (H2 : IntsAt w a2 x) :
    Calls Tryz.prog 55 #[.slice a n cap, .slice a2 n2 cap2] w fun e w' => e = .returned (.bool (picB M x)) ∧ Below w.heap.size w w' := by
  obtain ⟨b, off, ra, rc, rfl, hb, hc⟩ := rows_head H (by omega)
  have HC := hid (containsI w a2 n2 cap2 x hn2 hm2 H2 77 #[] _ (enters_of Tryz.func77 (by kernel_rfl) rfl) (pic1 w))
  have i0 : (0 : Int) < (n : Int) := by omega
  obtain ⟨W, hW⟩ : ∃ W, W = colsM M := ⟨_, rfl⟩
  have hp : picB M x = (decide (n2 = W) && !(x.any (fun n => !inB n (-1000) 1000))) := by
    unfold picB
    rw [hW, hn2, List.all_eq_not_any_not]
  rw [hp]
  rw [← hW] at hc
  obtain ⟨A, hA⟩ : ∃ A, A = x.any (fun n => !inB n (-1000) 1000) := ⟨_, rfl⟩
  rw [← hA] at HC ⊢
  clear hp hA hn hn2 H H2 hW
  by_cases h : n2 = W
  · subst h
    have hd : (((n2 : Nat) : Int) == (n2 : Int)) = true := by simp
    go_enter Tryz.func55, Tryz.ntmps55
    go_wp2_with (go_at_call 76; refine HC.out.mono ?_; rintro e w1 ⟨rfl, hb1⟩)
    go_ret
    exact ⟨by simp, hb1⟩
  · have hd : (((n2 : Nat) : Int) == (W : Int)) = false := by simp; omega
    rw [decide_eq_false h, Bool.false_and]
    clear h
    go_enter Tryz.func55, Tryz.ntmps55
    go_wp2_with fail
    go_ret
    exact ⟨rfl, Below.refl _ _⟩

theorem vpics1 (w : World) (b : Nat) (a : Option Addr) (n cap : Nat) (M : Mask) (hn : M.length = n) (h1 : 1 ≤ n) (H : RowsAt w a M) (hb : b < w.heap.size) (hc : w.cell? ⟨b, 0, none⟩ = some (.slice a n cap)) :
    PredR Tryz.prog 54 #[.pointer (some ⟨b, 0, none⟩)] w (fun x => !picB M x) := by
  intro x v W hbw hv
  have hc' : W.cell? ⟨b, 0, none⟩ = some (.slice a n cap) := (hbw.cell (p := ⟨b, 0, none⟩) hb).trans hc
  obtain ⟨ra, rn, rc, rfl, hrn, hrm, hri⟩ := hv
  have HP := hid (picture_c W a n cap M hn h1 (H.below hbw) ra rn rc x hrn hrm hri)
  show Calls _ _ #[.slice ra rn rc, .pointer (some ⟨b, 0, none⟩)] W fun e W' => e = .returned (.bool (!picB M x)) ∧ Below W.heap.size W W'
  obtain ⟨A, hA⟩ : ∃ A, A = picB M x := ⟨_, rfl⟩
  rw [← hA] at HP ⊢
  clear hA hn H hrn hri hc hbw
  go_enter Tryz.func54, Tryz.ntmps54
  go_wp2_with (go_at_call 55; refine HP.out.mono ?_; rintro e w1 ⟨rfl, hb1⟩)
  go_ret
  exact ⟨rfl, hb1⟩

theorem validPics_c (w : World) (a : Option Addr) (n cap : Nat) (M : Mask) (hn : M.length = n) (hm : n ≤ maxLen) (H : RowsAt w a M) (a2 : Option Addr) (n2 cap2 : Nat) (p : List (List Int)) (hn2 : p.length = n2) (hm2 : n2 ≤ maxLen) (H2 : RowsAt w a2 p) :
    Calls Tryz.prog 31 #[.slice a n cap, .slice a2 n2 cap2] w fun e w' => e = .returned (.bool (picsB M p)) ∧ Below w.heap.size w w' := by
  have hb0 : Below w.heap.size w (w.alloc (.cells #[.slice a n cap] 23)) := (Below.refl _ _).alloc (Nat.le_refl _) _
  have hmf : ∀ (fn : Fn) (first cap : Array Value) (w : World), (Instr.makeFunc fn first cap).run Tryz.prog w = .ok (.func fn first cap) w := fun _ _ _ _ => rfl
  have HV := hid (maskValid_c (w.alloc (.cells #[.slice a n cap] 23)) a n cap M hn hm (H.below hb0))
  have HB0 := hid hb0
  have HW := hid (fun X => swithin_c n2 1 60 X)
  cases hM : okM M
  · have hp : picsB M p = false := by unfold picsB; rw [hM]; rfl
    rw [hM] at HV
    rw [hp]
    clear hn hn2 H H2 hM hp
    go_enter Tryz.func31, Tryz.ntmps31
    go_wp2_with (go_at_call 52; refine HV.out.mono ?_; rintro e w1 ⟨rfl, hb1⟩)
    go_ret
    exact ⟨rfl, chain HB0.out hb1⟩
  · cases hL : inB n2 1 60
    · have hp : picsB M p = false := by unfold picsB; rw [hM, hn2, hL]; rfl
      rw [hM] at HV
      rw [hL] at HW
      rw [hp]
      clear hn hn2 H H2 hM hp hL
      go_enter Tryz.func31, Tryz.ntmps31
      go_wp2_with first
        | (go_at_call 52; refine HV.out.mono ?_; rintro e w1 ⟨rfl, hb1⟩)
        | (go_at_call 32; refine (HW.out _).mono ?_; rintro e w2 ⟨rfl, rfl⟩)
      go_ret
      exact ⟨rfl, chain HB0.out hb1⟩
    · have hp : picsB M p = !(p.any (fun x => !picB M x)) := by unfold picsB; rw [hM, hn2, hL, List.all_eq_not_any_not]; rfl
      have h1 : 1 ≤ n := by rw [← hn]; exact (okM_ok hM).2.1
      have HC := hid (fun (X : World) (hX : Below w.heap.size w X) (hs : w.heap.size < X.heap.size) (hc : X.cell? ⟨w.heap.size, 0, none⟩ = some (.slice a n cap)) =>
        containsR X a2 n2 cap2 p hn2 hm2 (H2.below hX) 54 #[.pointer (some ⟨w.heap.size, 0, none⟩)] _ (enters_of Tryz.func54 (by kernel_rfl) rfl) (vpics1 X w.heap.size a n cap M hn h1 (H.below hX) hs hc))
      rw [hM] at HV
      rw [hL] at HW
      rw [hp]
      obtain ⟨A, hA⟩ : ∃ A, A = p.any (fun x => !picB M x) := ⟨_, rfl⟩
      rw [← hA] at HC ⊢
      clear hn hn2 H H2 hM hp hL hA
      go_enter Tryz.func31, Tryz.ntmps31
      go_wp2_with first
        | (go_at_call 52; refine HV.out.mono ?_; rintro e w1 ⟨rfl, hb1⟩)
        | (go_at_call 32; refine (HW.out _).mono ?_; rintro e w2 ⟨rfl, rfl⟩)
        | (go_at_call 53; refine (HC.out _ (chain HB0.out hb1) (Nat.lt_of_lt_of_le (by simp) hb1.size) ((hb1.cell (p := ⟨w.heap.size, 0, none⟩) (by simp)).trans (by rw [World.cell?_alloc_at _ _ _ _ rfl]; rfl))).mono ?_; rintro e w3 ⟨rfl, hb3⟩)
      go_ret
      exact ⟨rfl, chain (chain HB0.out hb1) hb3⟩
end Go.Proofs.YtkmjeegnijohmaaGreat

namespace Go.Proofs.YtkmjeegnijohmaaGreat
open Go.RowKit
set_option linter.unusedVariables false

theorem r8in_c (n lo hi : Int) (w : World) : Calls Tryz.prog 35 #[.int .i64 n, .int .i64 lo, .int .i64 hi] w fun e w' => e = .returned (.bool (inB n lo hi)) ∧ w = w' := by
  go_enter Tryz.func35, Tryz.ntmps35
  go_wp2
  all_goals
    go_ret
    refine ⟨ret_bool ?_, rfl⟩
    unfold inB
    rw [Bool.eq_iff_iff]
    simp
    try omega

def listB (l : List Int) (len most : Int) : Bool := decide ((l.length : Int) = len) && l.all (fun n => inB n (-most) most)

theorem r8list_c (w : World) (a : Option Addr) (n cap : Nat) (l : List Int) (hn : l.length = n) (hm : n ≤ maxLen) (H : IntsAt w a l) (len most : Int) (h0 : 0 ≤ most) (h9 : most ≤ 1000000000) :
    Calls Tryz.prog 58 #[.slice a n cap, .int .i64 len, .int .i64 most] w fun e w' => e = .returned (.bool (listB l len most)) ∧ w = w' := by
  have HN := hid hn
  have HH := hid H
  have hd : ((n : Int) == len) = decide ((n : Int) = len) := by rw [Bool.eq_iff_iff]; simp
  obtain ⟨D, hD⟩ : ∃ D, D = decide ((n : Int) = len) := ⟨_, rfl⟩
  rw [← hD] at hd
  have HD := hid hD
  clear hn H hD
  unfold maxLen at hm
  go_enter Tryz.func58, Tryz.ntmps58
  go_wp2
  go_loop [11] (fun i => ∃ k : Nat, k ≤ n ∧ i = .int .i64 k ∧ ∀ j (hj : j < l.length), j < k → inB l[j] (-most) most = true) (fun i => n - (intOf i).toNat)
  case atStart => exact ⟨0, Nat.zero_le _, rfl, fun i _ h => by omega⟩
  case round =>
    obtain ⟨k, hk, rfl, hno⟩ := hrel
    have HNO := hid hno
    clear hno
    by_cases hlt : k < n
    · have hkl : k < l.length := by rw [HN.out]; exact hlt
      obtain ⟨b, off, rfl, hbs, hc⟩ := HH.out k hkl
      have hg : l[k]?.getD 0 = l[k] := by rw [List.getElem?_eq_getElem hkl]; rfl
      rw [hg] at hc
      obtain ⟨B, hB⟩ : ∃ B, B = inB l[k] (-most) most := ⟨_, rfl⟩
      have HW := hid (fun W => r8in_c l[k] (-most) most W)
      rw [← hB] at HW
      have HBB := hid hB
      have HKL := hid hkl
      clear hg hB
      cases B
      · go_wp2_with (go_at_call 35; refine (HW.out _).mono ?_; rintro e w1 ⟨rfl, rfl⟩)
        go_ret
        refine ⟨ret_bool ?_, rfl⟩
        unfold listB
        rw [all_stop HKL.out HBB.out.symm]; simp
      · go_wp2_with (go_at_call 35; refine (HW.out _).mono ?_; rintro e w1 ⟨rfl, rfl⟩)
        go_round
        case rel =>
          refine ⟨k + 1, by omega, by go_num, fun j hj hjk => ?_⟩
          by_cases e : j = k
          · subst e; exact HBB.out.symm
          · exact HNO.out j hj (by omega)
        case measure => simp [intOf]; omega
    · go_wp2
      go_ret
      refine ⟨ret_bool ?_, rfl⟩
      unfold listB
      rw [HN.out, all_done (fun j hj => HNO.out j hj (by have := HN.out; omega)), ← HD.out]; simp

theorem listB_pic {M : Mask} {x : List Int} : listB x (colsM M) 1000 = picB M x := by
  unfold listB picB
  congr 1
  rw [Bool.eq_iff_iff]; simp; omega

theorem allP_stop {α : Type} {p : α → Bool} {l : List α} {k : Nat} (hk : k < l.length) (h : p l[k] = false) : l.all p = false := by
  rw [List.all_eq_false]; exact ⟨l[k], List.getElem_mem hk, by rw [h]; simp⟩
theorem allP_done {α : Type} {p : α → Bool} {l : List α} (h : ∀ j (hj : j < l.length), p l[j] = true) : l.all p = true := by
  rw [List.all_eq_true]; intro x hx
  obtain ⟨j, hj, rfl⟩ := List.getElem_of_mem hx
  exact h j hj

theorem r8validPics_c (w : World) (a : Option Addr) (n cap : Nat) (M : Mask) (hn : M.length = n) (hm : n ≤ maxLen) (H : RowsAt w a M) (a2 : Option Addr) (n2 cap2 : Nat) (p : List (List Int)) (hn2 : p.length = n2) (hm2 : n2 ≤ maxLen) (H2 : RowsAt w a2 p) :
    Calls Tryz.prog 34 #[.slice a n cap, .slice a2 n2 cap2] w fun e w' => e = .returned (.bool (picsB M p)) ∧ Below w.heap.size w w' := by
  have HV := hid (r2Valid_c w a n cap M hn hm H)
  have HW := hid (fun X => r8in_c n2 1 60 X)
  cases hM : okM M
  · have hp : picsB M p = false := by unfold picsB; rw [hM]; rfl
    rw [hM] at HV
    rw [hp]
    clear hn hn2 H H2 hM hp
    go_enter Tryz.func34, Tryz.ntmps34
    go_wp2_with (go_at_call 57; refine HV.out.mono ?_; rintro e w1 ⟨rfl, rfl⟩)
    go_ret
    exact ⟨rfl, Below.refl _ _⟩
  · cases hL : inB n2 1 60
    · have hp : picsB M p = false := by unfold picsB; rw [hM, hn2, hL]; rfl
      rw [hM] at HV
      rw [hL] at HW
      rw [hp]
      clear hn hn2 H H2 hM hp hL
      go_enter Tryz.func34, Tryz.ntmps34
      go_wp2_with first
        | (go_at_call 57; refine HV.out.mono ?_; rintro e w1 ⟨rfl, rfl⟩)
        | (go_at_call 35; refine (HW.out _).mono ?_; rintro e w2 ⟨rfl, rfl⟩)
      go_ret
      exact ⟨rfl, Below.refl _ _⟩
    · have hp : picsB M p = p.all (picB M) := by unfold picsB; rw [hM, hn2, hL]; rfl
      have h1 : 1 ≤ n := by rw [← hn]; exact (okM_ok hM).2.1
      obtain ⟨b, off, ra, rc, rfl, hb, hc⟩ := rows_head H (by omega)
      have i0 : (0 : Int) < (n : Int) := by omega
      have HP2 := hid (fun (k : Nat) (hk : k < p.length) => H2 k hk)
      have HLI := hid (fun (ra : Option Addr) (rn rc : Nat) (x : List Int) (hrn : x.length = rn) (hrm : rn ≤ maxLen) (hri : IntsAt w ra x) => r8list_c w ra rn rc x hrn hrm hri (colsM M) 1000 (by omega) (by omega))
      obtain ⟨W, hW⟩ : ∃ W, W = colsM M := ⟨_, rfl⟩
      have HPI := hid (show ∀ x, listB x (W : Int) 1000 = picB M x from fun x => by rw [hW]; exact listB_pic)
      rw [← hW] at hc HLI
      have HN2 := hid hn2
      have hm2' : (n2 : Int) ≤ 60 := by unfold inB at hL; simp at hL; omega
      have hn60 : n2 ≤ 60 := by omega
      rw [hM] at HV
      rw [hL] at HW
      rw [hp]
      clear hn hn2 H H2 hM hp hL hW
      go_enter Tryz.func34, Tryz.ntmps34
      go_wp2_with first
        | (go_at_call 57; refine HV.out.mono ?_; rintro e w1 ⟨rfl, rfl⟩)
        | (go_at_call 35; refine (HW.out _).mono ?_; rintro e w2 ⟨rfl, rfl⟩)
      go_loop [18] (fun i => ∃ k : Nat, k ≤ n2 ∧ i = .int .i64 k ∧ ∀ j (hj : j < p.length), j < k → picB M p[j] = true) (fun i => n2 - (intOf i).toNat)
      case atStart => exact ⟨0, Nat.zero_le _, rfl, fun i _ h => by omega⟩
      case round =>
        obtain ⟨k, hk, rfl, hno⟩ := hrel
        have HNO := hid hno
        clear hno
        by_cases hlt : k < n2
        · have hkl : k < p.length := by rw [HN2.out]; exact hlt
          obtain ⟨pb, po, xa, xn, xc, rfl, hpb, hpc, hxn, hxm, hxi⟩ := HP2.out k hkl
          have HL2 := hid (HLI.out xa xn xc p[k] hxn hxm hxi)
          obtain ⟨B, hB⟩ : ∃ B, B = picB M p[k] := ⟨_, rfl⟩
          rw [HPI.out, ← hB] at HL2
          have HBB := hid hB
          have HKL := hid hkl
          clear hB hxn hxi
          cases B
          · go_wp2_with (go_at_call 58; refine HL2.out.mono ?_; rintro e w1 ⟨rfl, rfl⟩)
            go_ret
            refine ⟨ret_bool ?_, Below.refl _ _⟩
            rw [allP_stop HKL.out HBB.out.symm]
          · go_wp2_with (go_at_call 58; refine HL2.out.mono ?_; rintro e w1 ⟨rfl, rfl⟩)
            go_round
            case rel =>
              refine ⟨k + 1, by omega, by go_num, fun j hj hjk => ?_⟩
              by_cases e : j = k
              · subst e; exact HBB.out.symm
              · exact HNO.out j hj (by omega)
            case measure => simp [intOf]; omega
        · go_wp2
          go_ret
          refine ⟨ret_bool ?_, Below.refl _ _⟩
          rw [allP_done (fun j hj => HNO.out j hj (by have := HN2.out; omega))]
end Go.Proofs.YtkmjeegnijohmaaGreat

namespace Go.Proofs.YtkmjeegnijohmaaGreat
open Go.RowKit
set_option linter.unusedVariables false

def changeF (a b : List Int) : List Int := (List.range b.length).map (fun i => vec b i - vec a i)
theorem changeF_len (a b : List Int) : (changeF a b).length = b.length := by simp [changeF]
theorem changeF_take (a b : List Int) {k : Nat} (hk : k < b.length) : (changeF a b).take (k + 1) = (changeF a b).take k ++ [vec b k - vec a k] := by
  have hc : k < (changeF a b).length := by rw [changeF_len]; exact hk
  rw [List.take_succ_eq_append_getElem hc]
  simp [changeF]

theorem schange_c (w : World) (a a2 : Option Addr) (n cap cap2 : Nat) (x y : List Int) (hn : x.length = n) (hn2 : y.length = n) (hm : n ≤ 1000) (H : IntsAt w a x) (H2 : IntsAt w a2 y) (hx : BndL 67108864 x) (hy : BndL 67108864 y) :
    Calls Tryz.prog 38 #[.slice a n cap, .slice a2 n cap2] w fun e w' => ∃ v, e = .returned v ∧ w'.ownsRow w.heap.size 3 1 v n ((changeF x y).map (Value.int .i64)) ∧ Below w.heap.size w w' := by
  have HN := hid hn
  have HN2 := hid hn2
  have HH := hid H
  have HH2 := hid H2
  have HCT := hid (fun (k : Nat) (hk : k < y.length) => changeF_take x y hk)
  have HCL := hid (show (changeF x y).length = n by rw [changeF_len, hn2])
  have HX := hid hx
  have HY := hid hy
  obtain ⟨C, hC⟩ : ∃ C, C = changeF x y := ⟨_, rfl⟩
  rw [← hC] at HCT HCL ⊢
  clear hn hn2 H H2 hx hy hC
  go_enter Tryz.func38, Tryz.ntmps38
  go_wp2
  go_loopw [5, 10] (fun v i wr => ∃ k : Nat, k ≤ n ∧ i = .int .i64 k ∧ wr.ownsRow w.heap.size 3 1 v k ((C.take k).map (Value.int .i64)) ∧ Below w.heap.size w wr) (fun _ i _ => n - (intOf i).toNat)
  case atStart => exact ⟨0, Nat.zero_le _, rfl, World.ownsRow_nil _ _ _ _, Below.refl _ _⟩
  case round =>
    obtain ⟨k, hk, rfl, ho, hbk⟩ := hrel
    by_cases hlt : k < n
    · obtain ⟨b, off, rfl, hbs, hc⟩ := (HH.out.below hbk) k (by rw [HN.out]; exact hlt)
      obtain ⟨b2, off2, rfl, hbs2, hc2⟩ := (HH2.out.below hbk) k (by rw [HN2.out]; exact hlt)
      have htk := HCT.out k (by rw [HN2.out]; exact hlt)
      have e1 : x[k]?.getD 0 = vec x k := rfl
      have e2 : y[k]?.getD 0 = vec y k := rfl
      rw [e1] at hc
      rw [e2] at hc2
      have b1 := HX.out (vec x k) (by have hk' : k < x.length := by rw [HN.out]; exact hlt
                                      unfold vec; rw [List.getElem?_eq_getElem hk']; exact List.getElem_mem hk')
      have b2' := HY.out (vec y k) (by have hk' : k < y.length := by rw [HN2.out]; exact hlt
                                       unfold vec; rw [List.getElem?_eq_getElem hk']; exact List.getElem_mem hk')
      obtain ⟨p, hp⟩ : ∃ p, p = vec x k := ⟨_, rfl⟩
      obtain ⟨q, hq⟩ : ∃ q, q = vec y k := ⟨_, rfl⟩
      rw [← hp] at hc htk b1
      rw [← hq] at hc2 htk b2'
      obtain ⟨z, hz⟩ : ∃ z, z = q - p := ⟨_, rfl⟩
      rw [← hz] at htk
      have hw : wrap64 (q - p) = z := by rw [hz]; unfold wrap64; omega
      have hw2 : IntKind.i64.wrap (q - p) = z := by rw [IntWalk.i64_left]; exact hw
      obtain ⟨la, lc, rfl⟩ := ownsRow_slice ho
      have HTK := hid htk
      have HO := hid ho
      have M1 := hid (show k + 1 ≤ maxLen by unfold maxLen; omega)
      have M2 := hid (show (k + 1) * 8 ≤ 140737488355328 by omega)
      have M3 := hid (Nat.le_trans hbk.size (le_alloc wr (.cells #[.int .i64 z] 3)))
      have HBK := hid hbk
      have hki : (k : Int) < (n : Int) := by omega
      have hki0 : (0 : Int) ≤ (k : Int) := by omega
      clear htk e1 e2 hp hq hz b1 b2' ho hbk hbs hbs2
      go_wp2_with (at_builtin; refine wpList_app _ rfl (.tmp 15) (.tmp 22) 33 rfl w.heap.size 3 (.int .i64 0) 1 8 Tryz.underlying33 li_int rfl Nat.one_pos (.slice la k lc) k _ rfl (HO.out.alloc _) (some ⟨wr.heap.size, 0, none⟩) 1 1 [.int .i64 z] rfl rfl no_none (one_news wr _ _) (li_one _) M1.out M2.out M3.out ?_; refine Stop.of ?_)
      refine Stop.go ?_
      intro a3 c3 w3 own3 g3
      have hB3 : Below w.heap.size w w3 := (HBK.out.alloc HBK.out.size _).grown g3 M3.out (fun k hk => (HO.out.lt k hk).1)
      go_wp2
      refine ⟨⟨k + 1, by omega, by go_num, ?_, hB3⟩, by simp [intOf]; omega⟩
      rw [HTK.out]
      simpa using own3
    · obtain rfl : n = k := by omega
      rw [List.take_of_length_le (by rw [HCL.out]; exact Nat.le_refl _)] at ho
      go_wp2
      go_ret
      exact ⟨_, rfl, ho, hbk⟩

theorem r8change_c (w : World) (a a2 : Option Addr) (n cap cap2 : Nat) (x y : List Int) (hn : x.length = n) (hn2 : y.length = n) (hm : n ≤ 1000) (H : IntsAt w a x) (H2 : IntsAt w a2 y) (hx : BndL 67108864 x) (hy : BndL 67108864 y) :
    Calls Tryz.prog 81 #[.slice a n cap, .slice a2 n cap2] w fun e w' => ∃ v, e = .returned v ∧ w'.ownsRow w.heap.size 3 1 v n ((changeF x y).map (Value.int .i64)) ∧ Below w.heap.size w w' := by
  have HN := hid hn
  have HN2 := hid hn2
  have HH := hid H
  have HH2 := hid H2
  have HCT := hid (fun (k : Nat) (hk : k < y.length) => changeF_take x y hk)
  have HCL := hid (show (changeF x y).length = n by rw [changeF_len, hn2])
  have HX := hid hx
  have HY := hid hy
  obtain ⟨C, hC⟩ : ∃ C, C = changeF x y := ⟨_, rfl⟩
  rw [← hC] at HCT HCL ⊢
  clear hn hn2 H H2 hx hy hC
  go_enter Tryz.func81, Tryz.ntmps81
  go_wp2
  go_loopw [5, 9] (fun v i wr => ∃ k : Nat, k ≤ n ∧ i = .int .i64 k ∧ wr.ownsRow w.heap.size 3 1 v k ((C.take k).map (Value.int .i64)) ∧ Below w.heap.size w wr) (fun _ i _ => n - (intOf i).toNat)
  case atStart => exact ⟨0, Nat.zero_le _, rfl, World.ownsRow_nil _ _ _ _, Below.refl _ _⟩
  case round =>
    obtain ⟨k, hk, rfl, ho, hbk⟩ := hrel
    by_cases hlt : k < n
    · obtain ⟨b, off, rfl, hbs, hc⟩ := HH.out k (by rw [HN.out]; exact hlt)
      obtain ⟨b2, off2, rfl, hbs2, hc2⟩ := HH2.out k (by rw [HN2.out]; exact hlt)
      have htk := HCT.out k (by rw [HN2.out]; exact hlt)
      have e1 : x[k]?.getD 0 = vec x k := rfl
      have e2 : y[k]?.getD 0 = vec y k := rfl
      rw [e1] at hc
      rw [e2] at hc2
      have b1 := HX.out (vec x k) (by have hk' : k < x.length := by rw [HN.out]; exact hlt
                                      unfold vec; rw [List.getElem?_eq_getElem hk']; exact List.getElem_mem hk')
      have b2' := HY.out (vec y k) (by have hk' : k < y.length := by rw [HN2.out]; exact hlt
                                       unfold vec; rw [List.getElem?_eq_getElem hk']; exact List.getElem_mem hk')
      obtain ⟨p, hp⟩ : ∃ p, p = vec x k := ⟨_, rfl⟩
      obtain ⟨q, hq⟩ : ∃ q, q = vec y k := ⟨_, rfl⟩
      rw [← hp] at hc htk b1
      rw [← hq] at hc2 htk b2'
      obtain ⟨z, hz⟩ : ∃ z, z = q - p := ⟨_, rfl⟩
      rw [← hz] at htk
      have hw : wrap64 (q - p) = z := by rw [hz]; unfold wrap64; omega
      have hw2 : IntKind.i64.wrap (q - p) = z := by rw [IntWalk.i64_left]; exact hw
      obtain ⟨la, lc, rfl⟩ := ownsRow_slice ho
      have HTK := hid htk
      have HO := hid ho
      have M1 := hid (show k + 1 ≤ maxLen by unfold maxLen; omega)
      have M2 := hid (show (k + 1) * 8 ≤ 140737488355328 by omega)
      have M3 := hid (Nat.le_trans hbk.size (le_alloc wr (.cells #[.int .i64 z] 3)))
      have HBK := hid hbk
      have hki : (k : Int) < (n : Int) := by omega
      have hki0 : (0 : Int) ≤ (k : Int) := by omega
      have HS := hid (show ∀ X : World, Below w.heap.size w X → X.cell? ⟨b, off + k, none⟩ = some (.int .i64 p) ∧ X.cell? ⟨b2, off2 + k, none⟩ = some (.int .i64 q) from fun X hX => ⟨(hX.cell (p := ⟨b, _, none⟩) hbs).trans hc, (hX.cell (p := ⟨b2, _, none⟩) hbs2).trans hc2⟩)
      clear htk e1 e2 hp hq hz b1 b2' ho hbk hbs hbs2 hc hc2
      go_wp2
      refine plain_region (fun j w' => decide (j < 13) = true → w'.cell? ⟨b, off + k, none⟩ = some (.int .i64 p) ∧ w'.cell? ⟨b2, off2 + k, none⟩ = some (.int .i64 q)) (by kernel_rfl) ?_
      have hS := HS.out wr.drew HBK.out.drew
      have HOd := hid (show wr.drew.ownsRow w.heap.size 3 1 (.slice la k lc) k ((C.take k).map (Value.int .i64)) from HO.out)
      have HBd := hid HBK.out.drew
      have M3 := hid (Nat.le_trans HBK.out.drew.size (le_alloc wr.drew (.cells #[.int .i64 z] 3)))
      generalize wr.drew = wd at hS HOd HBd M3 ⊢
      refine AnyT.takeD (i := 0) (v := .slice la k lc) rfl rfl (by kernel_rfl) (by kernel_rfl) (by kernel_rfl) (by first | exact (fun _ _ _ h => h) | exact (fun _ _ _ h => absurd h.1 (by simp))) (by kernel_rfl) (by rfl) (by rintro w' ⟨q1, q2⟩; go_simp) hS ?_; go_frame
      refine AnyT.takeD (i := 1) (v := .slice (some ⟨b2, off2, none⟩) n cap2) rfl rfl (by kernel_rfl) (by kernel_rfl) (by kernel_rfl) (by first | exact (fun _ _ _ h => h) | exact (fun _ _ _ h => absurd h.1 (by simp))) (by kernel_rfl) (by rfl) (by rintro w' ⟨q1, q2⟩; go_simp) hS ?_; go_frame
      refine AnyT.takeD (i := 2) (v := .int .i64 k) rfl rfl (by kernel_rfl) (by kernel_rfl) (by kernel_rfl) (by first | exact (fun _ _ _ h => h) | exact (fun _ _ _ h => absurd h.1 (by simp))) (by kernel_rfl) (by rfl) (by rintro w' ⟨q1, q2⟩; go_simp) hS ?_; go_frame
      refine AnyT.takeD (i := 3) (v := .pointer (some ⟨b2, off2 + k, none⟩)) rfl rfl (by kernel_rfl) (by kernel_rfl) (by kernel_rfl) (by first | exact (fun _ _ _ h => h) | exact (fun _ _ _ h => absurd h.1 (by simp))) (by kernel_rfl) (by rfl) (by rintro w' ⟨q1, q2⟩; go_simp) hS ?_; go_frame
      refine AnyT.takeD (i := 4) (v := .int .i64 q) rfl rfl (by kernel_rfl) (by kernel_rfl) (by kernel_rfl) (by first | exact (fun _ _ _ h => h) | exact (fun _ _ _ h => absurd h.1 (by simp))) (by kernel_rfl) (by rfl) (by rintro w' ⟨q1, q2⟩; go_simp) hS ?_; go_frame
      refine AnyT.takeD (i := 5) (v := .slice (some ⟨b, off, none⟩) n cap) rfl rfl (by kernel_rfl) (by kernel_rfl) (by kernel_rfl) (by first | exact (fun _ _ _ h => h) | exact (fun _ _ _ h => absurd h.1 (by simp))) (by kernel_rfl) (by rfl) (by rintro w' ⟨q1, q2⟩; go_simp) hS ?_; go_frame
      refine AnyT.takeD (i := 6) (v := .int .i64 k) rfl rfl (by kernel_rfl) (by kernel_rfl) (by kernel_rfl) (by first | exact (fun _ _ _ h => h) | exact (fun _ _ _ h => absurd h.1 (by simp))) (by kernel_rfl) (by rfl) (by rintro w' ⟨q1, q2⟩; go_simp) hS ?_; go_frame
      refine AnyT.takeD (i := 7) (v := .pointer (some ⟨b, off + k, none⟩)) rfl rfl (by kernel_rfl) (by kernel_rfl) (by kernel_rfl) (by first | exact (fun _ _ _ h => h) | exact (fun _ _ _ h => absurd h.1 (by simp))) (by kernel_rfl) (by rfl) (by rintro w' ⟨q1, q2⟩; go_simp) hS ?_; go_frame
      refine AnyT.takeD (i := 8) (v := .int .i64 p) rfl rfl (by kernel_rfl) (by kernel_rfl) (by kernel_rfl) (by first | exact (fun _ _ _ h => h) | exact (fun _ _ _ h => absurd h.1 (by simp))) (by kernel_rfl) (by rfl) (by rintro w' ⟨q1, q2⟩; go_simp) hS ?_; go_frame
      refine AnyT.takeD (i := 9) (v := .int .i64 z) rfl rfl (by kernel_rfl) (by kernel_rfl) (by kernel_rfl) (by first | exact (fun _ _ _ h => h) | exact (fun _ _ _ h => absurd h.1 (by simp))) (by kernel_rfl) (by rfl) (by rintro w' hw'; go_simp) hS ?_; go_frame
      refine AnyT.next (i := 10) (by kernel_rfl) rfl (wpOp_of_list rfl ?_)
      go_wp2
      refine ⟨fun _ => HS.out _ (HBd.out.alloc HBd.out.size _), ?_⟩
      refine AnyT.next (i := 11) (by kernel_rfl) rfl (wpOp_of_list rfl ?_)
      (refine wpList_app _ rfl (.tmp 12) (.tmp 22) 33 rfl w.heap.size 3 (.int .i64 0) 1 8 Tryz.underlying33 li_int rfl Nat.one_pos (.slice la k lc) k _ rfl (HOd.out.alloc _) (some ⟨wd.heap.size, 0, none⟩) 1 1 [.int .i64 z] rfl rfl no_none (one_news wd _ _) (li_one _) M1.out M2.out M3.out ?_)
      intro a3 c3 w3 own3 g3
      have hB3 : Below w.heap.size w w3 := (HBd.out.alloc HBd.out.size _).grown g3 M3.out (fun k hk => (HOd.out.lt k hk).1)
      have hS3 := HS.out w3 hB3
      refine And.intro (fun _ => hS3) ?_
      refine AnyT.takeD (i := 12) (v := .slice a3 (k + 1) c3) rfl rfl (by kernel_rfl) (by kernel_rfl) (by kernel_rfl) (by first | exact (fun _ _ _ h => h) | exact (fun _ _ _ h => absurd h.1 (by simp))) (by kernel_rfl) (by rfl) (by rintro w' ⟨q1, q2⟩; go_simp) hS3 ?_; go_frame
      refine ⟨by kernel_rfl, ?_⟩
      have HB3 := hid hB3
      have HO3 := hid own3
      clear hB3 own3 g3 hS hS3
      go_wp2
      refine ⟨⟨k + 1, by omega, by go_num, ?_, HB3.out⟩, by simp [intOf]; omega⟩
      rw [HTK.out]
      simpa using HO3.out
    · obtain rfl : n = k := by omega
      rw [List.take_of_length_le (by rw [HCL.out]; exact Nat.le_refl _)] at ho
      go_wp2
      go_ret
      exact ⟨_, rfl, ho, hbk⟩
end Go.Proofs.YtkmjeegnijohmaaGreat

namespace Go.Proofs.YtkmjeegnijohmaaGreat
open Go.RowKit
set_option linter.unusedVariables false

theorem rows_two {w : World} {a1 a2 : Option Addr} {n1 c1 n2 c2 : Nat} {x y : List Int} (T : TypeId) (h1 : x.length = n1) (h2 : y.length = n2) (m1 : n1 ≤ maxLen) (m2 : n2 ≤ maxLen) (H1 : IntsAt w a1 x) (H2 : IntsAt w a2 y) :
    RowsAt (w.alloc (.cells #[.slice a1 n1 c1, .slice a2 n2 c2] T)) (some ⟨w.heap.size, 0, none⟩) [x, y] := by
  have hb : Below w.heap.size w (w.alloc (.cells #[.slice a1 n1 c1, .slice a2 n2 c2] T)) := (Below.refl _ _).alloc (Nat.le_refl _) _
  intro j hj
  match j, hj with
  | 0, _ => exact ⟨w.heap.size, 0, a1, n1, c1, rfl, by simp, by rw [World.cell?_alloc_at _ _ _ _ rfl]; rfl, h1, m1, H1.below hb⟩
  | 1, _ => exact ⟨w.heap.size, 0, a2, n2, c2, rfl, by simp, by rw [World.cell?_alloc_at _ _ _ _ rfl]; rfl, h2, m2, H2.below hb⟩

theorem pic_bnd {M : Mask} {x : List Int} (h : picB M x = true) : x.length = colsM M ∧ BndL 67108864 x := by
  unfold picB at h
  simp only [Bool.and_eq_true, decide_eq_true_eq, List.all_eq_true] at h
  refine ⟨h.1, fun v hv => ?_⟩
  have := h.2 v hv
  unfold inB at this
  simp at this
  omega

end Go.Proofs.YtkmjeegnijohmaaGreat

namespace Go.Proofs.YtkmjeegnijohmaaGreat
open Go.RowKit
set_option linter.unusedVariables false

abbrev Frm := Bool × List Int
def FramesAt (w : World) (a : Option Addr) (fs : List Frm) : Prop :=
  ∀ j (hj : j < fs.length), ∃ b off ra n cap, a = some ⟨b, off, none⟩ ∧ b < w.heap.size ∧ w.cell? ⟨b, off + j * 2, none⟩ = some (.bool fs[j].1) ∧ w.cell? ⟨b, off + j * 2 + 1, none⟩ = some (.slice ra n cap) ∧ fs[j].2.length = n ∧ n ≤ maxLen ∧ IntsAt w ra fs[j].2
theorem FramesAt.below {w w' : World} {a : Option Addr} {l : List Frm} (h : FramesAt w a l) (hb : Below w.heap.size w w') : FramesAt w' a l := by
  intro j hj
  obtain ⟨b, off, ra, n, cap, e, hlt, h0, h1, hn, hm, hi⟩ := h j hj
  exact ⟨b, off, ra, n, cap, e, Nat.lt_of_lt_of_le hlt hb.size, (hb.cell (p := ⟨b, _, none⟩) hlt).trans h0, (hb.cell (p := ⟨b, _, none⟩) hlt).trans h1, hn, hm, hi.below hb⟩
def frB (M : Mask) (f : Frm) : Bool := decide (f.2.length = 0) || (f.1 && picB M f.2) || (!f.1 && (decide (f.2.length = M.length) && milB f.2))
def validB (M : Mask) (fs : List Frm) : Bool := okM M && inB fs.length 1 60 && (fs[0]?.getD (false, [])).1 && fs.all (frB M)

theorem lost_c (w : World) (kf : Bool) (a : Option Addr) (n cap : Nat) :
    Calls Tryz.prog 83 #[.agg #[.bool kf, .slice a n cap]] w fun e w' => e = .returned (.bool (decide (n = 0))) ∧ Below w.heap.size w w' := by
  have hd : ((n : Int) == 0) = decide (n = 0) := by rw [Bool.eq_iff_iff]; simp
  obtain ⟨D, hD⟩ : ∃ D, D = decide (n = 0) := ⟨_, rfl⟩
  rw [← hD] at hd ⊢
  clear hD
  go_enter Tryz.func83, Tryz.ntmps83
  go_wp2
  go_ret
  exact ⟨rfl, (Below.refl _ _).alloc (Nat.le_refl _) _⟩

end Go.Proofs.YtkmjeegnijohmaaGreat

namespace Go.Proofs.YtkmjeegnijohmaaGreat
open Go.RowKit
set_option linter.unusedVariables false

def FrmV (w : World) (v : Value) (f : Frm) : Prop := ∃ ra n cap, v = .agg #[.bool f.1, .slice ra n cap] ∧ f.2.length = n ∧ n ≤ maxLen ∧ IntsAt w ra f.2
theorem FrmV.below {w w' : World} {v : Value} {f : Frm} (h : FrmV w v f) (hb : Below w.heap.size w w') : FrmV w' v f := by
  obtain ⟨ra, n, cap, e, hn, hm, hi⟩ := h
  exact ⟨ra, n, cap, e, hn, hm, hi.below hb⟩
end Go.Proofs.YtkmjeegnijohmaaGreat

namespace Go.Proofs.YtkmjeegnijohmaaGreat
open Go.RowKit
set_option linter.unusedVariables false

def addF (r b : List Int) : List Int := (List.range r.length).map (fun i => vec r i + vec b i)
theorem addF_len (r b : List Int) : (addF r b).length = r.length := by simp [addF]
def wholeV (M : Mask) (y : List Int) (k : Int) : Option (List Int) := if countE M y k = 0 then (match wholeF M y k.toNat with | [r] => some r | _ => none) else none
def nextF (M : Mask) (k : Int) (before : Option (List Int)) (f : Frm) : Option (List Int) :=
  if f.2.length = 0 then none else if f.1 = true then some f.2 else
    match before with
    | none => none
    | some b => match wholeV M f.2 k with
      | none => none
      | some r => if picB M (addF r b) = true then some (addF r b) else none
def decAt (M : Mask) (k : Int) (fs : List Frm) : Nat → Option (List Int)
  | 0 => none
  | j + 1 => nextF M k (decAt M k fs j) (fs[j]?.getD (false, []))
def encAt (M : Mask) (p : List (List Int)) (every : Nat) (i : Nat) : Frm :=
  if i % every = 0 then (true, p[i]?.getD []) else (false, readV M (changeF (p[i - 1]?.getD []) (p[i]?.getD [])))
def encF (M : Mask) (p : List (List Int)) (every : Nat) : List Frm := (List.range p.length).map (encAt M p every)
theorem encF_len (M : Mask) (p : List (List Int)) (every : Nat) : (encF M p every).length = p.length := by simp [encF]
theorem encF_take (M : Mask) (p : List (List Int)) (every : Nat) {k : Nat} (hk : k < p.length) : (encF M p every).take (k + 1) = (encF M p every).take k ++ [encAt M p every k] := by
  have hc : k < (encF M p every).length := by rw [encF_len]; exact hk
  rw [List.take_succ_eq_append_getElem hc]
  simp [encF]
def rightF (M : Mask) (p : List (List Int)) (every : Nat) (k : Int) : Bool := (List.range p.length).all fun j => decide (decAt M k (encF M p every) (j + 1) = some (p[j]?.getD []))
def sizeL (l : List Int) : Nat := l.countP (fun x => decide (x ≠ 0))
def sizesF (p : List (List Int)) : List Int := (List.range (p.length - 1)).map fun i => (sizeL (changeF (p[i]?.getD []) (p[i + 1]?.getD [])) : Int)
theorem sizesF_len (p : List (List Int)) : (sizesF p).length = p.length - 1 := by simp [sizesF]
theorem sizesF_take (p : List (List Int)) {k : Nat} (hk : k < p.length - 1) : (sizesF p).take (k + 1) = (sizesF p).take k ++ [(sizeL (changeF (p[k]?.getD []) (p[k + 1]?.getD [])) : Int)] := by
  have hc : k < (sizesF p).length := by rw [sizesF_len]; exact hk
  rw [List.take_succ_eq_append_getElem hc]
  simp [sizesF]
theorem sizeL_take (l : List Int) {k : Nat} (hk : k < l.length) : sizeL (l.take (k + 1)) = sizeL (l.take k) + (if l[k]?.getD 0 ≠ 0 then 1 else 0) := by
  unfold sizeL
  rw [List.take_succ_eq_append_getElem hk, List.countP_append, List.getElem?_eq_getElem hk]
  simp [List.countP_cons]
theorem sizeL_le (l : List Int) : sizeL l ≤ l.length := List.countP_le_length

theorem readM_V {M : Mask} {x : List Int} (hM : okM M = true) (hx : BndL 67108864 x) : readM M x = readV M x := by
  obtain ⟨h, _, _, _, h10⟩ := okM_ok hM
  unfold readM readV
  apply List.map_congr_left
  intro r hr
  refine dotW_dotV (fun v hv => ?_) hx (by rw [h.wid r hr]; omega)
  obtain ⟨i, hi, rfl⟩ := List.getElem_of_mem hv
  have := h.one r hr i
  rw [vec_lt hi] at this
  omega
theorem change_bnd {M : Mask} {x y : List Int} (hx : picB M x = true) (hy : picB M y = true) : (changeF x y).length = colsM M ∧ ∀ v ∈ changeF x y, -2000 ≤ v ∧ v ≤ 2000 := by
  unfold picB at hx hy
  simp only [Bool.and_eq_true, decide_eq_true_eq, List.all_eq_true] at hx hy
  refine ⟨by rw [changeF_len]; exact hy.1, fun v hv => ?_⟩
  unfold changeF at hv
  obtain ⟨i, hi, rfl⟩ := List.mem_map.1 hv
  have h1 := vec_mem (P := fun v => -1000 ≤ v ∧ v ≤ 1000) (by omega) (fun v hv => by have := hx.2 v hv; unfold inB at this; simpa using this) i
  have h2 := vec_mem (P := fun v => -1000 ≤ v ∧ v ≤ 1000) (by omega) (fun v hv => by have := hy.2 v hv; unfold inB at this; simpa using this) i
  omega

theorem info_frame : (Tryz.prog.info? 47).map (fun i => (i.zero, i.size, i.bytes)) = some (some (.agg #[.bool false, .slice none 0 0]), 2, 32) := by kernel_rfl

def FrmsO (W : World) (base : Nat) (S : Nat → Prop) (v : Value) (T : List Frm) : Prop :=
  ∃ xs, W.ownsRow base 47 2 v T.length xs ∧ (∀ k, v.ownBlock = some k → S k) ∧ ∀ j (hj : j < T.length), xs[j * 2]? = some (.bool T[j].1) ∧ ∃ u, xs[j * 2 + 1]? = some u ∧ ElemI 3 W base S u T[j].2
theorem FrmsO.nil (W : World) (base : Nat) (S : Nat → Prop) : FrmsO W base S (.slice none 0 0) [] := ⟨[], World.ownsRow_nil _ _ _ _, fun k hk => by simp [Value.ownBlock] at hk, fun j hj => by simp at hj⟩
theorem FrmsO.slice {W : World} {base : Nat} {S : Nat → Prop} {v : Value} {T : List Frm} (h : FrmsO W base S v T) : ∃ a c, v = .slice a T.length c := by
  obtain ⟨xs, ho, _⟩ := h; exact ownsRow_slice ho
theorem FrmsO.keep {W W' : World} {base : Nat} {S S' K : Nat → Prop} {v : Value} {T : List Frm} (h : FrmsO W base S v T) (hk : Keep K W W') (hS : ∀ b, S b → b < W.heap.size → K b ∧ S' b) : FrmsO W' base S' v T := by
  obtain ⟨xs, ho, hg, he⟩ := h
  refine ⟨xs, ⟨ho.1, ?_⟩, fun k hk' => ?_, fun j hj => ?_⟩
  · rcases ho.2 with hn | ⟨g, cap, cur, rfl, hb, hgg, rest⟩
    · exact .inl hn
    · have hlt := (Array.getElem?_eq_some_iff.1 hgg).1
      exact .inr ⟨g, cap, cur, rfl, hb, (hk.block g hlt (hS g (hg g rfl) hlt).1).trans hgg, rest⟩
  · rcases ho.2 with ⟨rfl, _⟩ | ⟨g, cap, cur, rfl, hb, hgg, rest⟩
    · simp [Value.ownBlock] at hk'
    · obtain rfl : g = k := by simpa [Value.ownBlock] using hk'
      exact (hS g (hg g rfl) (Array.getElem?_eq_some_iff.1 hgg).1).2
  · obtain ⟨h1, u, hu, a, n, cap, e, hn, hm, hel⟩ := he j hj
    refine ⟨h1, u, hu, a, n, cap, e, hn, hm, fun i hi => ?_⟩
    obtain ⟨b, off, e, hSb, hb, hty, hc⟩ := hel i hi
    have hh := hS b hSb hb
    refine ⟨b, off, e, hh.2, Nat.lt_of_lt_of_le hb hk.size, ?_, hk.cell hc hh.1⟩
    rcases hty with h | ⟨c, f, h⟩
    · exact .inl h
    · exact .inr ⟨c, f, (hk.block b hb hh.1).trans h⟩
theorem FrmsO.below {W W' : World} {base : Nat} {S : Nat → Prop} {v : Value} {T : List Frm} (h : FrmsO W base S v T) (hb : Below W.heap.size W W') : FrmsO W' base S v T :=
  h.keep (Keep.of_below hb : Keep (fun _ => True) _ _) (fun _ h _ => ⟨trivial, h⟩)
theorem FrmsO.reads {W : World} {base : Nat} {S : Nat → Prop} {v : Value} {T : List Frm} (h : FrmsO W base S v T) : ∃ a cap, v = .slice a T.length cap ∧ T.length ≤ maxLen ∧ FramesAt W a T := by
  obtain ⟨xs, ho, hg, he⟩ := h
  rcases ho.2 with ⟨rfl, h0⟩ | ⟨g, cap, cur, rfl, hbg, hgg, hnc, hcm, hsz, htk⟩
  · exact ⟨none, 0, by rw [h0], by rw [h0]; decide, fun j hj => by omega⟩
  · refine ⟨_, cap, rfl, by omega, fun j hj => ?_⟩
    obtain ⟨h1, u, h2, h3⟩ := he j hj
    have hc : ∀ i, i < T.length * 2 → W.cell? ⟨g, i, none⟩ = xs[i]? := fun i hi =>
      World.ownsRow.cellAt (w := W) (base := base) (e := 47) (size := 2) (g := g) (n := T.length) (cap := cap) (xs := xs) ⟨ho.1, .inr ⟨g, cap, cur, rfl, hbg, hgg, hnc, hcm, hsz, htk⟩⟩ i hi
    obtain ⟨sa, sn, sc, rfl, _⟩ := id h3
    obtain ⟨k1, k2, k3⟩ := h3.ints
    exact ⟨g, 0, sa, sn, sc, rfl, (Array.getElem?_eq_some_iff.1 hgg).1, by rw [Nat.zero_add, hc _ (by omega)]; exact h1, by rw [Nat.zero_add, hc _ (by omega)]; exact h2, k1, k2, k3⟩
theorem FrmsO.snoc {W w1 w2 : World} {base : Nat} {S : Nat → Prop} {v v' u : Value} {T : List Frm} {f : Frm} {xs : List Value}
    (ho : W.ownsRow base 47 2 v T.length xs) (he : ∀ j (hj : j < T.length), xs[j * 2]? = some (.bool T[j].1) ∧ ∃ u, xs[j * 2 + 1]? = some u ∧ ElemI 3 W base S u T[j].2)
    (h2 : ElemI 3 W base S u f.2)
    (hW1 : Below W.heap.size W w1) (hg : w1.grownBy w2 v.ownBlock) (ho' : w2.ownsRow base 47 2 v' (T.length + 1) (xs ++ [.bool f.1, u])) (hS' : ∀ k, v'.ownBlock = some k → S k) : FrmsO w2 base S v' (T ++ [f]) := by
  have hlen : xs.length = T.length * 2 := ho.1
  have hgb : ∀ b, (b < base ∨ ∃ c f, W.heap[b]? = some (.cells c 3 f)) → b < W.heap.size → w2.heap[b]? = W.heap[b]? := by
    intro b hty hb
    refine (hg.block b (Nat.lt_of_lt_of_le hb hW1.size) ?_).trans (hW1.block b hb)
    rcases ho.2 with ⟨rfl, _⟩ | ⟨g, cap, cur, rfl, hbg, hgg, _⟩
    · simp [Value.ownBlock]
    · intro e
      obtain rfl : b = g := by simpa [Value.ownBlock] using e
      rcases hty with h | ⟨c, f, h⟩
      · omega
      · rw [h] at hgg; cases hgg
  have hel : ∀ u l, ElemI 3 W base S u l → ElemI 3 w2 base S u l := by
    intro u l h
    refine h.keep (T := fun b => b < W.heap.size ∧ (b < base ∨ ∃ c f, W.heap[b]? = some (.cells c 3 f))) ⟨hg.os.trans hW1.os, hg.tape.trans hW1.tape, hg.output.trans hW1.output, Nat.le_trans hW1.size hg.size, fun k hk hT => hgb k hT.2 hk⟩ fun b _ hb hty => ⟨hb, hty⟩
  refine ⟨xs ++ [.bool f.1, u], by rw [List.length_append]; exact ho', hS', fun j hj => ?_⟩
  by_cases e : j < T.length
  · obtain ⟨k1, u', k2, k3⟩ := he j e
    refine ⟨by rw [List.getElem?_append_left (by omega), List.getElem_append_left e]; exact k1, u', by rw [List.getElem?_append_left (by omega)]; exact k2, ?_⟩
    rw [List.getElem_append_left e]; exact hel _ _ k3
  · have : j = T.length := by simp at hj; omega
    subst this
    refine ⟨by rw [List.getElem?_append_right (by omega), hlen]; simp, u, by rw [List.getElem?_append_right (by omega), hlen, show T.length * 2 + 1 - T.length * 2 = 1 by omega]; rfl, ?_⟩
    simp only [List.getElem_append_right (Nat.le_refl _), Nat.sub_self, List.getElem_cons_zero]; exact hel _ _ h2
end Go.Proofs.YtkmjeegnijohmaaGreat

namespace Go.Proofs.YtkmjeegnijohmaaGreat
set_option linter.unusedVariables false

theorem sm_le {f : Nat → Int} {B : Nat} (h : ∀ c, -(B : Int) ≤ f c ∧ f c ≤ B) : ∀ n : Nat, -((n * B : Nat) : Int) ≤ sm f n ∧ sm f n ≤ ((n * B : Nat) : Int)
  | 0 => by simp [sm]
  | n + 1 => by
    have h1 := sm_le h n
    have h2 := h n
    simp only [sm]
    rw [Nat.add_mul, Nat.one_mul]
    omega
theorem dotV_le {r x : List Int} {B : Nat} (hr : ∀ c, -1 ≤ vec r c ∧ vec r c ≤ 1) (hx : ∀ v ∈ x, -(B : Int) ≤ v ∧ v ≤ B) : -((r.length * B : Nat) : Int) ≤ dotV r x ∧ dotV r x ≤ ((r.length * B : Nat) : Int) := by
  unfold dotV
  refine sm_le (fun c => ?_) _
  have h1 := hr c
  have h2 := vec_mem (P := fun v => -(B : Int) ≤ v ∧ v ≤ B) (by omega) hx c
  rcases (by omega : vec r c = -1 ∨ vec r c = 0 ∨ vec r c = 1) with h | h | h <;> rw [h] <;> omega
theorem readV_mil {M : Mask} {x : List Int} (hM : okM M = true) (hx : ∀ v ∈ x, -2000 ≤ v ∧ v ≤ 2000) : milB (readV M x) = true ∧ (readV M x).length = M.length := by
  obtain ⟨h, _, _, _, h10⟩ := okM_ok hM
  refine ⟨?_, by simp [readV]⟩
  unfold milB
  rw [List.all_eq_true]
  intro v hv
  unfold readV at hv
  obtain ⟨r, hr, rfl⟩ := List.mem_map.1 hv
  have := dotV_le (B := 2000) (h.one r hr) (by intro v hv; have := hx v hv; omega)
  rw [h.wid r hr] at this
  unfold inB
  have h2 : colsM M * 2000 ≤ 10 * 2000 := Nat.mul_le_mul_right _ h10
  simp only [Bool.and_eq_true, decide_eq_true_eq]
  omega
theorem picsB_ok {M : Mask} {p : List (List Int)} (h : picsB M p = true) : okM M = true ∧ 1 ≤ p.length ∧ p.length ≤ 60 ∧ ∀ x ∈ p, picB M x = true := by
  unfold picsB inB at h
  simp only [Bool.and_eq_true, decide_eq_true_eq, List.all_eq_true] at h
  exact ⟨h.1.1, by omega, by omega, h.2⟩
theorem picsB_get {M : Mask} {p : List (List Int)} (h : picsB M p = true) {i : Nat} (hi : i < p.length) : picB M (p[i]?.getD []) = true := by
  rw [List.getElem?_eq_getElem hi]; exact (picsB_ok h).2.2.2 _ (List.getElem_mem hi)
theorem frB_enc {M : Mask} {p : List (List Int)} (h : picsB M p = true) (every : Nat) {i : Nat} (hi : i < p.length) : frB M (encAt M p every i) = true := by
  obtain ⟨hM, h1, h60, hp⟩ := picsB_ok h
  have hpi := picsB_get h hi
  unfold encAt
  split
  · unfold frB; simp [hpi]
  · have hpp := picsB_get h (i := i - 1) (by omega)
    obtain ⟨hl, hb⟩ := change_bnd hpp hpi
    obtain ⟨h3, h4⟩ := readV_mil hM hb
    unfold frB
    simp [h3, h4]
theorem encF_valid {M : Mask} {p : List (List Int)} (h : picsB M p = true) (every : Nat) : validB M (encF M p every) = true := by
  obtain ⟨hM, h1, h60, hp⟩ := picsB_ok h
  have h0 : (encF M p every)[0]?.getD (false, []) = encAt M p every 0 := by
    unfold encF; rw [List.getElem?_map, List.getElem?_range h1]; rfl
  unfold validB
  rw [hM, encF_len, h0]
  simp only [Bool.true_and, Bool.and_eq_true, List.all_eq_true]
  refine ⟨⟨by unfold inB; simp; omega, by unfold encAt; simp⟩, fun f hf => ?_⟩
  unfold encF at hf
  obtain ⟨i, hi, rfl⟩ := List.mem_map.1 hf
  exact frB_enc h every (List.mem_range.1 hi)
end Go.Proofs.YtkmjeegnijohmaaGreat

namespace Go.Proofs.YtkmjeegnijohmaaGreat
open Go.RowKit
set_option linter.unusedVariables false

def OptV (w : World) (lo : Nat) (S : Nat → Prop) (o : Option (List Int)) (v : Value) : Prop :=
  (o = none ∧ v = .slice none 0 0) ∨ ∃ x b cap, o = some x ∧ v = .slice (some ⟨b, 0, none⟩) x.length cap ∧ lo ≤ b ∧ S b ∧ SpRow w b x ∧ 1 ≤ x.length ∧ x.length ≤ maxLen
theorem OptV.keep {w w' : World} {lo : Nat} {S S' K : Nat → Prop} {o : Option (List Int)} {v : Value} (h : OptV w lo S o v) (hk : Keep K w w') (hS : ∀ b, lo ≤ b → b < w.heap.size → S b → K b ∧ S' b) : OptV w' lo S' o v := by
  rcases h with h | ⟨x, b, cap, h1, h2, h3, h4, h5, h6, h7⟩
  · exact .inl h
  · have := hS b h3 h5.lt h4
    exact .inr ⟨x, b, cap, h1, h2, h3, this.2, h5.keep (hk.block b h5.lt this.1), h6, h7⟩
theorem OptV.below {w w' : World} {lo : Nat} {S : Nat → Prop} {o : Option (List Int)} {v : Value} (h : OptV w lo S o v) (hb : Below w.heap.size w w') : OptV w' lo S o v :=
  h.keep (Keep.of_below hb : Keep (fun _ => True) _ _) (fun _ _ _ h => ⟨trivial, h⟩)
def okO (M : Mask) (o : Option (List Int)) : Prop := ∀ x, o = some x → picB M x = true

theorem nextF_ok {M : Mask} {k : Int} {o : Option (List Int)} {f : Frm} (hf : frB M f = true) : okO M (nextF M k o f) := by
  intro x hx
  unfold nextF at hx
  split at hx
  · cases hx
  · rename_i h0
    split at hx
    · rename_i hk
      cases hx
      unfold frB at hf
      simp [h0, hk] at hf
      exact hf
    · split at hx
      · cases hx
      · split at hx
        · cases hx
        · split at hx
          · cases hx; assumption
          · cases hx
def addTo (r b : List Int) (k : Nat) : List Int := (List.range r.length).map (fun i => if i < k then vec r i + vec b i else vec r i)
theorem addTo_len (r b : List Int) (k : Nat) : (addTo r b k).length = r.length := by simp [addTo]
theorem addTo_zero (r b : List Int) : addTo r b 0 = r := by
  refine List.ext_getElem (addTo_len r b 0) fun i h1 h2 => ?_
  simp [addTo, vec_lt h2]
theorem addTo_all (r b : List Int) : addTo r b r.length = addF r b := by
  refine List.ext_getElem (by rw [addTo_len, addF_len]) fun i h1 h2 => ?_
  rw [addTo_len] at h1
  simp [addTo, addF, h1]
theorem addTo_get (r b : List Int) {k : Nat} (hk : k < r.length) : (addTo r b k)[k]?.getD 0 = vec r k := by
  rw [List.getElem?_eq_getElem (by rw [addTo_len]; exact hk)]
  simp [addTo]
theorem addTo_succ (r b : List Int) {k : Nat} (hk : k < r.length) : addTo r b (k + 1) = (addTo r b k).set k (vec r k + vec b k) := by
  refine List.ext_getElem (by simp [addTo]) fun i h1 h2 => ?_
  rw [addTo_len] at h1
  rw [List.getElem_set]
  simp only [addTo, List.getElem_map, List.getElem_range]
  by_cases e : k = i
  · subst e; simp
  · rw [if_neg e]
    by_cases h : i < k
    · rw [if_pos h, if_pos (by omega)]
    · rw [if_neg h, if_neg (by omega)]

theorem wholeF_facts {M : Mask} {y : List Int} {q : Nat} {r : List Int} (h : r ∈ wholeF M y q) : r.length = colsM M ∧ ∀ c, -1000000 ≤ vec r c ∧ vec r c ≤ 1000000 := by
  unfold wholeF at h
  obtain ⟨f, hf, e⟩ := List.mem_filterMap.1 h
  unfold wholeOne at e
  split at e
  · rename_i hw
    cases e
    refine ⟨by unfold spreadI; exact spreadTo1_len _ _ _, ?_⟩
    have hv : ∀ i : Nat, (-1000000 : Int) ≤ (f.2[i]?.getD ((0, 0) : Rt)).1 ∧ (f.2[i]?.getD ((0, 0) : Rt)).1 ≤ 1000000 := fun i => by
      rcases Nat.lt_or_ge i f.2.length with hi | hi
      · rw [List.getElem?_eq_getElem hi]
        have := List.all_eq_true.1 hw _ (List.getElem_mem hi)
        unfold wholeR inB at this
        simp at this
        exact this.2
      · rw [List.getElem?_eq_none hi]; simp
    have hs : ∀ k, ∀ v ∈ spreadTo1 (colsM M) f k, -1000000 ≤ v ∧ v ≤ 1000000 := by
      intro k
      induction k with
      | zero => intro v hv; simp [spreadTo1] at hv; omega
      | succ k ih =>
        intro v hv'
        rw [spreadTo1_succ] at hv'
        rcases List.mem_or_eq_of_mem_set hv' with h | h
        · exact ih v h
        · rw [h]; exact hv k
    intro c
    exact vec_mem (P := fun v => -1000000 ≤ v ∧ v ≤ 1000000) (by omega) (hs _) c
  · cases e
end Go.Proofs.YtkmjeegnijohmaaGreat

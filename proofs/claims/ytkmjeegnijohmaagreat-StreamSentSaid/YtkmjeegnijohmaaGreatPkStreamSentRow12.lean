/- Walks and plain laws for StreamSentRow, part 12. -/
import Derived.Lib.AppendZeros
import Derived.Deep.CutRange
import Derived.Test.YtkmjeegnijohmaaGreatPkStreamSentRow11
namespace Go.Proofs.YtkmjeegnijohmaaGreat
open Go.RowKit
set_option linter.unusedVariables false

def dOk (f : FitT) (t : Nat) : Bool := (f.2.take t).all (fun r => decide (r.2 = 1))
theorem dOk_succ {f : FitT} {t : Nat} (h : t < f.2.length) : dOk f (t + 1) = (dOk f t && decide (f.2[t].2 = 1)) := by
  unfold dOk
  rw [List.take_succ_eq_append_getElem h, List.all_append]
  simp
theorem dOk_all (f : FitT) : dOk f f.2.length = f.2.all (fun r => decide (r.2 = 1)) := by unfold dOk; rw [List.take_length]
def oneR (M : Mask) (f : FitT) : Option (List Int) := if (f.2.all (fun r => decide (r.2 = 1)) && okShownV M (spreadI (colsM M) f)) = true then some (spreadI (colsM M) f) else none
def wholeR' (M : Mask) (y : List Int) (k : Int) : List (List Int) := (fitsR M y k).filterMap (oneR M)
theorem allF_facts {M : Mask} {y : List Int} {f : FitT} (h : f ∈ allF M y) : SetOk (colsM M) f.1 ∧ f.2.length = f.1.length ∧ f.1.length ≤ colsM M := by
  unfold allF at h
  obtain ⟨S, hS, e⟩ := List.mem_filterMap.1 h
  obtain ⟨h1, h2⟩ := fitF_len e
  rw [h1]
  exact ⟨(allS_ok hS).2, h2, (allS_ok hS).1⟩
theorem fitsR_facts {M : Mask} {y : List Int} {k : Int} {f : FitT} (h : f ∈ fitsR M y k) : SetOk (colsM M) f.1 ∧ f.2.length = f.1.length ∧ f.1.length ≤ colsM M := allF_facts (List.mem_filter.1 h).1

set_option maxRecDepth 100000 in
set_option maxHeartbeats 1000000 in
theorem r4Whole_c (w : World) (a a2 : Option Addr) (n cap n2 cap2 : Nat) (M : Mask) (y : List Int) (k : Int) (hn : M.length = n) (hn2 : y.length = n2) (hm : n ≤ maxLen) (hm2 : n2 ≤ maxLen) (H : RowsAt w a M) (H2 : IntsAt w a2 y) :
    Calls Tryz.prog 85 #[.slice a n cap, .slice a2 n2 cap2, .int .i64 k] w fun e w' => Below w.heap.size w w' ∧ ((countE M y k ≠ 0 ∧ e = .returned (.tuple #[.slice none 0 0, .int .i64 (countE M y k)])) ∨
      (countE M y k = 0 ∧ ∃ v base, e = .returned (.tuple #[v, .int .i64 0]) ∧ w.heap.size ≤ base ∧ RowsN 33 w' base (fun _ => True) v (wholeR' M y k))) := by
  have HFT := hid (r4Fits_c w a a2 n cap n2 cap2 M y k hn hn2 hm hm2 H H2)
  by_cases h0 : countE M y k = 0
  rotate_left
  · obtain ⟨E, hE⟩ : ∃ E, E = countE M y k := ⟨_, rfl⟩
    rw [← hE] at HFT h0 ⊢
    have hne : (E != 0) = true := by simpa using h0
    have H0 := hid h0
    clear hn hn2 hm hm2 H H2 hE h0
    go_enter Tryz.func85, Tryz.ntmps85
    go_wp2_with (go_at_call 106; refine HFT.out.mono ?_; rintro e w1 ⟨hb1, ⟨_, rfl⟩ | ⟨h, _⟩⟩; rotate_left; exact absurd h H0.out)
    go_ret2
    exact ⟨hb1, .inl ⟨H0.out, rfl⟩⟩
  · have hM : okM M = true := by
      unfold countE at h0
      split at h0
      · rename_i h; exact (check_ok h).1
      · rename_i h; exact absurd h0 h
    obtain ⟨_, h1, h6, hc1, hc10⟩ := okM_ok hM
    obtain ⟨b, off, ra, rc, rfl, hb, hc⟩ := rows_head H (by omega)
    have i0 : (0 : Int) < (n : Int) := by omega
    have HC0 := hid (show ∀ X : World, Below w.heap.size w X → X.cell? ⟨b, off, none⟩ = some (.slice ra (colsM M) rc) from fun X hX => (hX.cell (p := ⟨b, off, none⟩) hb).trans hc)
    have HSH := hid (fun (X : World) (hX : Below w.heap.size w X) (xa : Option Addr) (xn xc : Nat) (x : List Int) (hx : x.length = xn) (hxm : xn ≤ maxLen) (hi : IntsAt X xa x) => r2Shown_c X (some ⟨b, off, none⟩) n cap M hn hm (H.below hX) xa xn xc x hx hxm hi)
    have HLE := hid (show (fitsR M y k).length ≤ 20000 from Nat.le_trans (List.length_filter_le _ _) (allF_le M y hc10))
    have HFF := hid (fun (f : FitT) (hf : f ∈ fitsR M y k) => fitsR_facts hf)
    have HWR := hid (show wholeR' M y k = (fitsR M y k).filterMap (oneR M) from rfl)
    have HON := hid (show ∀ f, oneR M f = if (f.2.all (fun r => decide (r.2 = 1)) && okShownV M (spreadI (colsM M) f)) = true then some (spreadI (colsM M) f) else none from fun f => rfl)
    rw [h0] at HFT ⊢
    obtain ⟨T, hT⟩ : ∃ T, T = fitsR M y k := ⟨_, rfl⟩
    obtain ⟨R, hR⟩ : ∃ R, R = wholeR' M y k := ⟨_, rfl⟩
    obtain ⟨W, hW⟩ : ∃ W, W = colsM M := ⟨_, rfl⟩
    rw [← hT] at HFT HLE HFF HWR
    rw [← hR] at HWR ⊢
    rw [← hW] at HC0 HFF HON hc1 hc10
    have HMK := hid (show ∀ w, (Instr.makeSlice 33 (.int .i64 (W : Int)) (.int .i64 (W : Int))).run Tryz.prog w = .ok (.slice (some ⟨w.heap.size, 0, none⟩) W W) (w.alloc (.cells (madeCells #[.int .i64 0] W) 3)) from fun w => run_make_row' 33 3 (.int .i64 0) 8 Tryz.underlying33 li_int rfl .i64 .i64 W (by omega) (by omega) w)
    have hle := HLE.out
    clear hn hn2 hm hm2 H H2 h0 hM h1 h6 hc hb hT hR hW
    go_enter Tryz.func85, Tryz.ntmps85
    go_wp2_with (go_at_call 106; refine HFT.out.mono ?_; rintro e w1 ⟨hb1, ⟨h, _⟩ | ⟨_, v1, base1, rfl, _, ho1⟩⟩; exact absurd rfl h; refine Stop.of ?_)
    refine Stop.go ?_
    obtain ⟨ta, tc, rfl, _, htf⟩ := ho1.reads
    have HTF := hid htf
    have HB1 := hid hb1
    clear ho1 htf hb1 HFT
    go_wp2
    go_loopw [10, 29] (fun v i wr => ∃ q : Nat, q ≤ T.length ∧ i = .int .i64 q ∧ RowsN 33 wr w1.heap.size (fun _ => True) v ((T.take q).filterMap (oneR M)) ∧ Below w1.heap.size w1 wr) (fun _ i _ => T.length - (intOf i).toNat)
    case atStart => exact ⟨0, Nat.zero_le _, rfl, RowsN.nil _ _ _ _, Below.refl _ _⟩
    case round =>
      obtain ⟨wo, rfl⟩ : ∃ wo, wo = wr := ⟨wr, rfl⟩
      obtain ⟨q, hq, rfl, ho, hbk⟩ := hrel
      by_cases hlt : q < T.length
      · obtain ⟨tb, toff, pa, pn, pc, va, vn, vc, rfl, hbs, hc0, hc1', hpn, hpm, hpi, hvn, hvm, hvi⟩ := HTF.out q hlt
        have g0 := (hbk.cell (p := ⟨tb, toff + q * 2, none⟩) hbs).trans hc0
        have g1 := (hbk.cell (p := ⟨tb, toff + q * 2 + 1, none⟩) hbs).trans hc1'
        have hft := filterMap_take (oneR M) T hlt
        obtain ⟨hset, hlen, hl10⟩ := HFF.out _ (List.getElem_mem hlt)
        have hcnt : ((T.take q).filterMap (oneR M)).length ≤ 20000 := by
          have h1 := List.length_filterMap_le (oneR M) (T.take q)
          rw [List.length_take] at h1; omega
        obtain ⟨f, hf⟩ : ∃ f, f = T[q]'hlt := ⟨_, rfl⟩
        rw [← hf] at hpn hpi hvn hvi hft hset hlen hl10
        have hon := HON.out f
        obtain ⟨C, hC⟩ : ∃ C, C = (T.take q).filterMap (oneR M) := ⟨_, rfl⟩
        rw [← hC] at ho hft hcnt
        obtain rfl : vn = pn := by rw [← hvn, hlen, hpn]
        have hv10 : vn ≤ 10 := by rw [hpn] at hl10; omega
        clear hl10
        obtain ⟨o1, ho1⟩ : ∃ o, o = Obj.cells #[.slice pa vn pc, .slice va vn vc] 110 (0, 0) := ⟨_, rfl⟩
        have hb1 : Below wo.heap.size wo (wo.alloc o1) := (Below.refl _ _).alloc (Nat.le_refl _) _
        have hb2 : Below wo.heap.size wo ((wo.alloc o1).alloc (.cells (madeCells #[.int .i64 0] W) 3)) := hb1.alloc hb1.size _
        have hq1 : ((wo.alloc o1).alloc (.cells (madeCells #[.int .i64 0] W) 3)).heap[wo.heap.size]? = some o1 := by rw [Below.heap_alloc _ _ _ (by simp)]; exact World.alloc_heap_new _ _
        have hx0 : SpRow ((wo.alloc o1).alloc (.cells (madeCells #[.int .i64 0] W) 3)) (wo.heap.size + 1) (List.replicate W 0) := by
          have h := IntRow.made (wo.alloc o1) 3 W
          rw [World.size_alloc] at h
          exact ⟨[], by rw [List.append_nil]; exact h⟩
        rw [ho1] at hq1
        obtain ⟨W2, hW2⟩ : ∃ W2, W2 = (wo.alloc (.cells #[.slice pa vn pc, .slice va vn vc] 110)).alloc (.cells (madeCells #[.int .i64 0] W) 3) := ⟨_, rfl⟩
        subst ho1
        rw [← hW2] at hb2 hq1 hx0
        have hbW2 : Below w1.heap.size w1 W2 := chain hbk hb2
        have hs2 : W2.heap.size = wo.heap.size + 2 := by rw [hW2]; simp
        have HW2 := hid hW2
        have HQ1 := hid hq1
        have HX0 := hid hx0
        have HB2 := hid hb2
        have HBW2 := hid hbW2
        have HFTT := hid hft
        have HON2 := hid hon
        have HSET := hid hset
        have HLEN := hid hlen
        have HCN := hid hcnt
        have HPI := hid hpi
        have HVI := hid hvi
        have HPN := hid hpn
        have HVN := hid hvn
        have HBK := hid hbk
        have HO := hid ho
        have HS2 := hid hs2
        have hm0 := HC0.out _ (chain (chain HB1.out hbk) ((Below.refl _ _).alloc (Nat.le_refl _) (.cells #[.slice pa vn pc, .slice va vn vc] 110)))
        have hmk := HMK.out
        have hki : (q : Int) < (T.length : Int) := by omega
        have hki0 : (0 : Int) ≤ (q : Int) := by omega
        clear hft hon hset hlen hcnt hf hC hpi hvi hpn hvn hbk ho hc0 hc1' hb1 hb2 hq1 hx0 hW2 hbW2 hs2
        go_wp2
        rw [← HW2.out]
        clear hmk hm0
        obtain ⟨y0, y1, _, _, _⟩ := box2_facts HQ1.out
        go_loopw [14, 41] (fun wv i wi => ∃ t : Nat, t ≤ vn ∧ i = .int .i64 t ∧ wv = .bool (dOk f t) ∧ SpRow wi (wo.heap.size + 1) (spreadTo1 W f t) ∧ Keep (fun x => x ≠ wo.heap.size + 1) W2 wi) (fun _ i _ => vn - (intOf i).toNat)
        case atStart => exact ⟨0, Nat.zero_le _, rfl, rfl, HX0.out, Keep.refl _ _⟩
        case round =>
          obtain ⟨t, ht, rfl, rfl, hsp, hkp⟩ := hrel
          have z0 := hkp.cell y0 (by show wo.heap.size ≠ wo.heap.size + 1; omega)
          have z1 := hkp.cell y1 (by show wo.heap.size ≠ wo.heap.size + 1; omega)
          have HKP := hid hkp
          have HSP := hid hsp
          have hwr := HBK.out.size
          by_cases hlt2 : t < vn
          · obtain ⟨pb, po, rfl, hpb, hpc⟩ := HPI.out t (by rw [HPN.out]; exact hlt2)
            have htv : t < f.2.length := by rw [HVN.out]; exact hlt2
            obtain ⟨vb, vo, rfl, hvb, hv0, hv1⟩ := HVI.out t htv
            have p0 := hkp.cell ((HBW2.out.cell (p := ⟨pb, _, none⟩) hpb).trans hpc) (by show pb ≠ wo.heap.size + 1; omega)
            have p1 := hkp.cell ((HBW2.out.cell (p := ⟨vb, _, none⟩) hvb).trans hv0) (by show vb ≠ wo.heap.size + 1; omega)
            have p2 := hkp.cell ((HBW2.out.cell (p := ⟨vb, _, none⟩) hvb).trans hv1) (by show vb ≠ wo.heap.size + 1; omega)
            have hpix := HSET.out.get (i := t) (by rw [HPN.out]; exact hlt2)
            have hgx : f.1[t]?.getD 0 = f.1[t]'(by rw [HPN.out]; exact hlt2) := by rw [List.getElem?_eq_getElem]; rfl
            rw [← hgx] at hpix
            have hsn := spreadTo1_succ W f t
            have hvx : (f.2[t]?.getD (0, 0)).1 = f.2[t].1 := by rw [List.getElem?_eq_getElem htv]; rfl
            rw [hvx] at hsn
            have hok := dOk_succ htv
            obtain ⟨x, hx⟩ : ∃ x : Nat, f.1[t]?.getD 0 = (x : Int) := ⟨(f.1[t]?.getD 0).toNat, by omega⟩
            rw [hx] at p0 hpix hsn
            rw [Int.toNat_natCast] at hsn
            obtain ⟨⟨r1, r2⟩, hrr⟩ : ∃ r, r = f.2[t] := ⟨_, rfl⟩
            rw [← hrr] at p1 p2 hsn hok
            simp only [] at p1 p2 hsn hok
            obtain ⟨ok, hokk⟩ : ∃ ok, ok = dOk f t := ⟨_, rfl⟩
            rw [← hokk] at hok ⊢
            have hx0 : (0 : Int) ≤ (x : Int) := hpix.1
            have hxW : (x : Int) < (W : Int) := hpix.2
            have hll : (spreadTo1 W f t).length = W := spreadTo1_len W f t
            have hc9 := hsp.cell (j := x) (by rw [hll]; omega)
            have hf9 := hsp.frozen x
            have hl9 := hsp.lt
            have hset := hsp.set x (by rw [hll]; omega) r1
            rw [← hsn] at hset
            have HST := hid hset
            have HOK := hid hok
            have hti : (t : Int) < (vn : Int) := by omega
            have hti0 : (0 : Int) ≤ (t : Int) := by omega
            clear hgx hvx hx hrr hokk hok hset hsn hpix hll hsp hkp hpc hv0 hv1 htv y0 y1
            cases ok
            · have hok2 : dOk f (t + 1) = false := by rw [HOK.out]; rfl
              have HOK2 := hid hok2
              clear hok2 HOK
              go_wp2
              refine ⟨⟨t + 1, by omega, by go_num, by rw [HOK2.out], HST.out, HKP.out.trans (Keep.set _ _ _ _)⟩, by simp [intOf]; omega⟩
            · by_cases hr2 : r2 = 1
              · subst hr2
                have hok2 : dOk f (t + 1) = true := by rw [HOK.out]; simp
                have HOK2 := hid hok2
                clear hok2 HOK
                go_wp2
                refine ⟨⟨t + 1, by omega, by go_num, by rw [HOK2.out], HST.out, HKP.out.trans (Keep.set _ _ _ _)⟩, by simp [intOf]; omega⟩
              · have hok2 : dOk f (t + 1) = false := by rw [HOK.out]; simp [hr2]
                have hre : (r2 == 1) = false := by simpa using hr2
                have HOK2 := hid hok2
                clear hok2 HOK hr2
                go_wp2
                refine ⟨⟨t + 1, by omega, by go_num, by rw [HOK2.out], HST.out, HKP.out.trans (Keep.set _ _ _ _)⟩, by simp [intOf]; omega⟩
          · obtain rfl : vn = t := by omega
            have hda : dOk f vn = f.2.all (fun r => decide (r.2 = 1)) := by rw [← dOk_all, HVN.out]
            have hspI : spreadTo1 W f vn = spreadI W f := by unfold spreadI; rw [HPN.out]
            rw [hspI] at hsp
            have hbwi : Below w1.heap.size w1 wr := hkp.below HBW2.out HBW2.out.size (fun x hx => by show x ≠ wo.heap.size + 1; omega)
            have hkr : Below wo.heap.size wo wr := hkp.below HB2.out HB2.out.size (fun x hx => by show x ≠ wo.heap.size + 1; omega)
            have hon := HON2.out
            have hil : (spreadI W f).length = W := by unfold spreadI; exact spreadTo1_len W f _
            have HSX := hid hsp
            have HBWI := hid hbwi
            have HKR := hid hkr
            obtain ⟨ok, hokk⟩ : ∃ ok, ok = dOk f vn := ⟨_, rfl⟩
            rw [← hda, ← hokk] at hon
            rw [← hokk]
            have hsh := HSH.out wr (chain HB1.out hbwi) (some ⟨wo.heap.size + 1, 0, none⟩) W W (spreadI W f) hil (by unfold maxLen; omega) hsp.ints
            have HIL := hid hil
            cases ok
            · have hno : oneR M f = none := by rw [hon]; rfl
              have hft2 := HFTT.out
              rw [hno] at hft2
              simp only [Option.toList_none, List.append_nil] at hft2
              have HF2 := hid hft2
              clear hno hft2 hon hsh hokk hda hspI hsp hkp hbwi hkr hil z0 z1 y0 y1
              go_wp2
              refine ⟨⟨q + 1, by omega, by go_num, ?_, HBWI.out⟩, by simp [intOf]; omega⟩
              rw [HF2.out]; exact HO.out.keep (Keep.of_below HKR.out : Keep (fun _ => True) _ _) (fun _ _ _ => ⟨trivial, trivial⟩)
            · obtain ⟨B, hB⟩ : ∃ B, B = okShownV M (spreadI W f) := ⟨_, rfl⟩
              rw [← hB] at hsh hon
              have HSHH := hid hsh
              have HONN := hid hon
              clear hon hsh hokk hda hspI hsp hkp hbwi hkr hil z0 z1 y0 y1 hB
              cases B
              · have hno : oneR M f = none := by rw [HONN.out]; rfl
                have hft2 := HFTT.out
                rw [hno] at hft2
                simp only [Option.toList_none, List.append_nil] at hft2
                have HF2 := hid hft2
                clear hno hft2
                go_wp2_with (go_at_call 107; refine HSHH.out.mono ?_; rintro e w5 ⟨rfl, rfl⟩)
                refine ⟨⟨q + 1, by omega, by go_num, ?_, HBWI.out⟩, by simp [intOf]; omega⟩
                rw [HF2.out]; exact HO.out.keep (Keep.of_below HKR.out : Keep (fun _ => True) _ _) (fun _ _ _ => ⟨trivial, trivial⟩)
              · have hyes : oneR M f = some (spreadI W f) := by rw [HONN.out]; rfl
                have hft2 := HFTT.out
                rw [hyes] at hft2
                simp only [Option.toList_some] at hft2
                have HF2 := hid hft2
                have hFO := HO.out.keep (S' := fun _ => True) (Keep.of_below HKR.out : Keep (fun _ => True) _ _) (fun _ _ _ => ⟨trivial, trivial⟩)
                obtain ⟨xs, hoo, hgg, hoe⟩ := hFO
                obtain ⟨oa, oc, rfl⟩ := ownsRow_slice hoo
                have HOO := hid hoo
                have HOE := hid hoe
                have HEN := hid (show ElemN wr w1.heap.size (fun _ => True) (.slice (some ⟨wo.heap.size + 1, 0, none⟩) W W) (spreadI W f) from ⟨wo.heap.size + 1, W, by rw [HIL.out], by omega, trivial, HSX.out, by rw [HIL.out]; unfold maxLen; omega⟩)
                have M1 := hid (show C.length + 1 ≤ maxLen by have := HCN.out; unfold maxLen; omega)
                have M2 := hid (show (C.length + 1) * 24 ≤ 140737488355328 by have := HCN.out; omega)
                have M3 := hid (Nat.le_trans HBWI.out.size (le_alloc _ (.cells #[.slice (some ⟨wo.heap.size + 1, 0, none⟩) W W] 33)))
                clear hyes hft2 hoo hgg hoe
                go_wp2_with first
                  | (go_at_call 107; refine HSHH.out.mono ?_; rintro e w5 ⟨rfl, rfl⟩)
                  | (at_builtin; refine wpList_app _ rfl (.tmp 72) (.tmp 74) 22 rfl w1.heap.size 33 (.slice none 0 0) 1 24 Tryz.underlying22 li_ints rfl Nat.one_pos (.slice oa C.length oc) C.length xs rfl (HOO.out.alloc _) (some ⟨wr.heap.size, 0, none⟩) 1 1 [.slice (some ⟨wo.heap.size + 1, 0, none⟩) W W] rfl rfl no_none (one_news wr _ _) (slice_oneCell _ _ _) M1.out M2.out M3.out ?_; intro a9 c9 w9 own9 g9; refine Stop.of ?_)
                refine Stop.go ?_
                have hsn := RowsN.snoc (l := spreadI W f) (by decide) HOO.out HOE.out HEN.out ((Below.refl _ _).alloc (Nat.le_refl _) _) g9 own9 (fun _ _ => trivial)
                have hB9 : Below w1.heap.size w1 w9 := (HBWI.out.alloc HBWI.out.size _).grown g9 M3.out (fun g hg => (HOO.out.lt g hg).1)
                rw [← HF2.out] at hsn
                have HSN := hid hsn
                have HB9 := hid hB9
                clear hsn hB9 own9 g9
                go_wp2
                exact ⟨⟨q + 1, by omega, by go_num, HSN.out, HB9.out⟩, by simp [intOf]; omega⟩
      · obtain rfl : q = T.length := by omega
        rw [List.take_of_length_le (Nat.le_refl _), ← HWR.out] at ho
        have HO := hid ho
        have HBK := hid hbk
        clear ho hbk
        go_wp2
        go_ret2
        exact ⟨chain HB1.out HBK.out, .inr ⟨trivial, _, w1.heap.size, rfl, HB1.out.size, HO.out⟩⟩
end Go.Proofs.YtkmjeegnijohmaaGreat

namespace Go.Proofs.YtkmjeegnijohmaaGreat
set_option linter.unusedVariables false

theorem filterMap_eq {α β : Type} {f g : α → Option β} : ∀ (l : List α), (∀ x ∈ l, f x = g x) → l.filterMap f = l.filterMap g
  | [], _ => rfl
  | x :: l, h => by
    rw [List.filterMap_cons, List.filterMap_cons, h x (by simp), filterMap_eq l (fun y hy => h y (by simp [hy]))]
theorem lvls_fits (M : Mask) (y : List Int) (n : Nat) : ∀ k, (lvls n k).filterMap (fitF M y) = fitsTo M y n (k + 1)
  | 0 => by
    rw [fitsTo_succ]
    show (comb n 0 0).filterMap (fitF M y) = fitsTo M y n 0 ++ _
    simp [fitsTo]
  | k + 1 => by
    rw [fitsTo_succ, ← lvls_fits M y n k]
    show (lvls n k ++ comb n (k + 1) 0).filterMap (fitF M y) = _
    rw [List.filterMap_append]
theorem allF_to (M : Mask) (y : List Int) : allF M y = fitsTo M y (colsM M) (colsM M + 1) := lvls_fits M y _ _
theorem fits_size {M : Mask} {y : List Int} {W j : Nat} {f : FitT} (h : f ∈ (comb W j 0).filterMap (fitF M y)) : f.1.length = j := by
  obtain ⟨S, hS, e⟩ := List.mem_filterMap.1 h
  rw [(fitF_len e).1]
  exact comb_len _ _ _ _ hS
theorem fits_cut (M : Mask) (y : List Int) (W k : Nat) : ∀ t, (fitsTo M y W t).filter (fun f => decide ((f.1.length : Int) ≤ (k : Int))) = fitsTo M y W (min t (k + 1))
  | 0 => by simp [fitsTo]
  | t + 1 => by
    rw [fitsTo_succ, List.filter_append, fits_cut M y W k t]
    rcases Nat.lt_or_ge k t with h | h
    · have h1 : ((comb W t 0).filterMap (fitF M y)).filter (fun f => decide ((f.1.length : Int) ≤ (k : Int))) = [] := by
        rw [List.filter_eq_nil_iff]
        intro f hf
        have := fits_size hf
        simp; omega
      rw [h1, List.append_nil, show min t (k + 1) = k + 1 by omega, show min (t + 1) (k + 1) = k + 1 by omega]
    · have h1 : ((comb W t 0).filterMap (fitF M y)).filter (fun f => decide ((f.1.length : Int) ≤ (k : Int))) = (comb W t 0).filterMap (fitF M y) := by
        rw [List.filter_eq_self]
        intro f hf
        have := fits_size hf
        simp; omega
      rw [h1, show min t (k + 1) = t by omega, show min (t + 1) (k + 1) = t + 1 by omega, fitsTo_succ]

theorem fit_long {M : Mask} {y S : List Int} (h : M.length < S.length) : fitF M y S = none := by
  unfold fitF
  rw [if_neg]
  rintro ⟨h0, _⟩
  unfold solveV at h0
  split at h0
  · rename_i hc
    obtain ⟨hM, hy, hyB, hS⟩ := check_ok hc
    have hmo := (okM_ok hM).1
    have hY := (hmo.cols S).addY (y := y) (by rw [colsF_len]; exact hy) (Y := 1000000) (by decide) (fun v hv => by
      unfold milB at hyB
      have := List.all_eq_true.1 hyB v hv
      unfold inB at this
      simp at this; omega)
    have hi := pRed_inv (withY (colsF M S) y) hY.wid S.length (fun j hj q => rowv_le (by decide) (fun r hr => hY.one r hr j hj) q)
    have hk := hi.K_le
    rw [withY_len (by rw [colsF_len]; exact hy), colsF_len] at hk
    unfold solveP at h0
    simp only [] at h0
    split at h0
    · simp at h0
    · split at h0
      · simp at h0
      · omega
  · rename_i hc; exact hc h0
theorem fits_long (M : Mask) (y : List Int) (W : Nat) : ∀ d, fitsTo M y W (M.length + 1 + d) = fitsTo M y W (M.length + 1)
  | 0 => rfl
  | d + 1 => by
    rw [show M.length + 1 + (d + 1) = (M.length + 1 + d) + 1 by omega, fitsTo_succ, fits_long M y W d]
    have h1 : (comb W (M.length + 1 + d) 0).filterMap (fitF M y) = [] := by
      rw [List.filterMap_eq_nil_iff]
      intro S hS
      refine fit_long ?_
      rw [comb_len _ _ _ _ hS]; omega
    rw [h1, List.append_nil]
theorem fits_same (M : Mask) (y : List Int) (k : Nat) : fitsR M y (k : Int) = fitsF M y k := by
  unfold fitsR fitsF
  rw [allF_to, fits_cut]
  rcases Nat.lt_or_ge M.length (min k (colsM M)) with h | h
  · obtain ⟨d, hd⟩ : ∃ d, min (colsM M + 1) (k + 1) = M.length + 1 + d := ⟨min (colsM M + 1) (k + 1) - (M.length + 1), by omega⟩
    rw [hd, fits_long, show min (min k (colsM M)) M.length + 1 = M.length + 1 by omega]
  · rw [show min (colsM M + 1) (k + 1) = min (min k (colsM M)) M.length + 1 by omega]

theorem spread_at {W : Nat} {f : FitT} (h : SetOk W f.1) : ∀ k, k ≤ f.1.length → ∀ i, i < k → vec (spreadTo1 W f k) (f.1[i]?.getD 0).toNat = (f.2[i]?.getD (0, 0)).1
  | 0, _, i, hi => by omega
  | k + 1, hk, i, hi => by
    rw [spreadTo1_succ]
    have hg : ∀ j (hj : j < f.1.length), f.1[j]?.getD 0 = f.1[j] := fun j hj => by rw [List.getElem?_eq_getElem hj]; rfl
    have hb := h.get (i := k) (by omega)
    by_cases e : i = k
    · subst e
      unfold vec
      rw [List.getElem?_set_self (by rw [spreadTo1_len, hg _ (by omega)]; omega)]
      rfl
    · have hne : (f.1[k]?.getD 0).toNat ≠ (f.1[i]?.getD 0).toNat := by
        rw [hg _ (by omega), hg _ (by omega)]
        intro he
        have hbi := h.get (i := i) (by omega)
        exact e (h.inj (i := i) (j := k) (by omega) (by omega) (by omega))
      unfold vec
      rw [List.getElem?_set_ne hne]
      exact spread_at h k (by omega) i (by omega)
theorem spread1_all {W : Nat} {f : FitT} {P : Int → Prop} (h0 : P 0) (hv : ∀ i : Nat, P (f.2[i]?.getD ((0, 0) : Rt)).1) : ∀ k, ∀ v ∈ spreadTo1 W f k, P v
  | 0 => fun v hv' => by simp [spreadTo1] at hv'; rw [hv'.2]; exact h0
  | k + 1 => fun v hv' => by
    rw [spreadTo1_succ] at hv'
    rcases List.mem_or_eq_of_mem_set hv' with h | h
    · exact spread1_all h0 hv k v h
    · rw [h]; exact hv k

theorem one_same {M : Mask} {f : FitT} (hM : okM M = true) (hs : SetOk (colsM M) f.1) (hl : f.2.length = f.1.length) : oneR M f = wholeOne (colsM M) f := by
  have hlen : (spreadI (colsM M) f).length = colsM M := by unfold spreadI; exact spreadTo1_len _ _ _
  have hc : (f.2.all (fun r => decide (r.2 = 1)) && okShownV M (spreadI (colsM M) f)) = f.2.all wholeR := by
    rw [Bool.eq_iff_iff]
    unfold okShownV
    rw [hM, hlen]
    simp only [Bool.and_eq_true, Bool.true_and, decide_eq_true_eq, List.all_eq_true, true_and]
    constructor
    · rintro ⟨h1, h2⟩ r hr
      unfold wholeR
      simp only [Bool.and_eq_true, decide_eq_true_eq]
      refine ⟨h1 r hr, ?_⟩
      obtain ⟨i, hi, rfl⟩ := List.getElem_of_mem hr
      have h3 := spread_at hs f.1.length (Nat.le_refl _) i (by omega)
      rw [List.getElem?_eq_getElem hi] at h3
      simp only [Option.getD_some] at h3
      unfold milB at h2
      have h4 := vec_mem (P := fun v => inB v (-1000000) 1000000 = true) (by decide) (List.all_eq_true.1 h2) (f.1[i]?.getD 0).toNat
      unfold spreadI at h4
      rw [h3] at h4
      exact h4
    · intro h
      refine ⟨fun r hr => ?_, ?_⟩
      · have := h r hr; unfold wholeR at this; simp only [Bool.and_eq_true, decide_eq_true_eq] at this; exact this.1
      · unfold milB
        rw [List.all_eq_true]
        unfold spreadI
        refine spread1_all (P := fun v => inB v (-1000000) 1000000 = true) (by decide) (fun i => ?_) _
        rcases Nat.lt_or_ge i f.2.length with hi | hi
        · rw [List.getElem?_eq_getElem hi]
          have := h _ (List.getElem_mem hi)
          unfold wholeR at this
          simp only [Bool.and_eq_true, decide_eq_true_eq] at this
          exact this.2
        · rw [List.getElem?_eq_none hi]; decide
  unfold oneR wholeOne
  rw [hc]

theorem whole_same {M : Mask} {y : List Int} {k : Int} (h : countE M y k = 0) : wholeR' M y k = wholeF M y k.toNat := by
  unfold countE at h
  split at h
  · rename_i hc
    obtain ⟨hM, _, _, _⟩ := check_ok hc
    split at h
    · rename_i hk
      unfold inB at hk
      simp only [Bool.and_eq_true, decide_eq_true_eq] at hk
      obtain ⟨q, rfl⟩ : ∃ q : Nat, k = (q : Int) := ⟨k.toNat, by omega⟩
      rw [Int.toNat_natCast]
      unfold wholeR' wholeF
      have hf : ∀ f ∈ fitsR M y (q : Int), oneR M f = wholeOne (colsM M) f := fun f hf => one_same hM (fitsR_facts hf).1 (fitsR_facts hf).2.1
      rw [filterMap_eq _ hf, fits_same]
    · simp at h
  · rename_i hc; exact absurd h hc
end Go.Proofs.YtkmjeegnijohmaaGreat

namespace Go.Proofs.YtkmjeegnijohmaaGreat
open Go.RowKit
set_option linter.unusedVariables false

theorem addF_take (r b : List Int) {k : Nat} (hk : k < r.length) : (addF r b).take (k + 1) = (addF r b).take k ++ [vec b k + vec r k] := by
  have hc : k < (addF r b).length := by rw [addF_len]; exact hk
  rw [List.take_succ_eq_append_getElem hc]
  simp [addF, Int.add_comm]

set_option maxRecDepth 100000 in
set_option maxHeartbeats 4000000 in
theorem r8next_c (w : World) (a a2 : Option Addr) (n cap n2 cap2 : Nat) (M : Mask) (kf : Bool) (l : List Int) (o : Option (List Int)) (nv : Value) (lo : Nat) (S : Nat → Prop) (k : Int) (hn : M.length = n) (hM : okM M = true) (hn2 : l.length = n2) (hm2 : n2 ≤ maxLen) (H : RowsAt w a M) (H2 : IntsAt w a2 l) (hf : frB M (kf, l) = true) (ho : OptV w lo S o nv) (hoo : okO M o) :
    Calls Tryz.prog 64 #[.slice a n cap, nv, .agg #[.bool kf, .slice a2 n2 cap2], .int .i64 k] w fun e w' => ∃ v, e = .returned v ∧ OptV w' w.heap.size (fun _ => True) (nextF M k o (kf, l)) v ∧ Below w.heap.size w w' := by
  obtain ⟨_, h1, hn6, hc1, hc10⟩ := okM_ok hM
  have heq := fun (w : World) (a : Option Addr) (n c : Nat) => Lib.run_eql_slice_nil (P := Tryz.prog) w 33 3 a n c 0 0 Tryz.underlying33
  have hbz : Below w.heap.size w (w.alloc (.cells #[.bool kf, .slice a2 n2 cap2] 47)) := (Below.refl _ _).alloc (Nat.le_refl _) _
  have hwz : (w.alloc (.cells #[.bool kf, .slice a2 n2 cap2] 47)).heap[w.heap.size]? = some (.cells #[.bool kf, .slice a2 n2 cap2] 47 (0, 0)) := World.alloc_heap_new _ _
  obtain ⟨z0, z1, _, _, _⟩ := box2_facts hwz
  by_cases h0 : n2 = 0
  · have hnx : nextF M k o (kf, l) = none := by unfold nextF; rw [if_pos (by rw [hn2]; exact h0)]
    rw [hnx]
    have HB := hid hbz
    subst h0
    clear hnx hn hn2 hm2 H H2 hf ho hoo hbz hwz
    go_enter Tryz.func64, Tryz.ntmps64
    go_wp2
    go_ret
    exact ⟨_, rfl, .inl ⟨rfl, rfl⟩, HB.out⟩
  · have hne0 : ((n2 : Int) == 0) = false := by
      have : ¬ (n2 : Int) = 0 := by omega
      simpa using this
    have HB := hid hbz
    cases kf
    · cases o with
      | none =>
        have hnx : nextF M k none (false, l) = none := by unfold nextF; rw [if_neg (by rw [hn2]; exact h0), if_neg (by simp)]
        have hnv : nv = .slice none 0 0 := by
          rcases ho with ⟨_, h⟩ | ⟨x, b, c, h, _⟩
          · exact h
          · cases h
        subst hnv
        rw [hnx]
        clear hnx hn hn2 hm2 H H2 hf ho hoo hbz hwz h0
        go_enter Tryz.func64, Tryz.ntmps64
        go_wp2
        go_ret
        exact ⟨_, rfl, .inl ⟨rfl, rfl⟩, HB.out⟩
      | some b =>
        obtain ⟨bb, bc, rfl, hlo, hbS, hbsp, hb1', hbm⟩ : ∃ bb bc, nv = .slice (some ⟨bb, 0, none⟩) b.length bc ∧ lo ≤ bb ∧ S bb ∧ SpRow w bb b ∧ 1 ≤ b.length ∧ b.length ≤ maxLen := by
          rcases ho with ⟨h, _⟩ | ⟨x, bb, bc, h, e, h2, h3, h4, h5, h6⟩
          · cases h
          · cases h; exact ⟨bb, bc, e, h2, h3, h4, h5, h6⟩
        have hpb := hoo b rfl
        have hbl := pic_bnd hpb
        have hbv : ∀ c, -1000 ≤ vec b c ∧ vec b c ≤ 1000 := fun c => by
          unfold picB at hpb
          simp only [Bool.and_eq_true, decide_eq_true_eq, List.all_eq_true] at hpb
          exact vec_mem (P := fun v => -1000 ≤ v ∧ v ≤ 1000) (by omega) (fun v hv => by have := hpb.2 v hv; unfold inB at this; simpa using this) c
        have hnx : nextF M k (some b) (false, l) = match wholeV M l k with | none => none | some r => if picB M (addF r b) = true then some (addF r b) else none := by
          unfold nextF; (rw [if_neg (by rw [hn2]; exact h0), if_neg (by simp)]) <;> rfl
        have HWH := hid (fun (X : World) (hX : Below w.heap.size w X) => r4Whole_c X a a2 n cap n2 cap2 M l k hn hn2 (by unfold maxLen; omega) hm2 (H.below hX) (H2.below hX))
        have HLI := hid (fun (X : World) (g c : Nat) (x : List Int) (hx : x.length = b.length) (hs : SpRow X g x) => r8list_c X (some ⟨g, 0, none⟩) b.length c x hx hbm hs.ints (b.length : Int) 1000 (by omega) (by omega))
        have HPI := hid (show ∀ x : List Int, listB x (b.length : Int) 1000 = picB M x from fun x => by rw [hbl.1]; exact listB_pic)
        have HNX := hid hnx
        have HBS := hid hbsp
        have HBV := hid hbv
        have HBL := hid hbl.1
        obtain ⟨bn, hbn⟩ : ∃ bn, bn = b.length := ⟨_, rfl⟩
        rw [← hbn] at HLI HPI hb1' hbm
        rw [← hbn]
        have HBN := hid hbn
        have hbn10 : bn ≤ 10 := by omega
        obtain ⟨wz, hz⟩ : ∃ wz, wz = w.alloc (.cells #[.bool false, .slice a2 n2 cap2] 47) := ⟨_, rfl⟩
        have HZ := hid hz
        rw [← hz] at HB
        have zz0 := z0
        have zz1 := z1
        rw [← hz] at zz0 zz1
        clear hnx hn hn2 hm2 H H2 hf ho hoo hbz hwz h0 hz hbsp hpb hbl hbv hbn
        go_enter Tryz.func64, Tryz.ntmps64
        go_wp2_with fail
        rw [← HZ.out]
        clear z0 z1
        go_wp2_with (go_at_call 85; refine (HWH.out _ HB.out).mono ?_; rintro e w2 ⟨hb2, ⟨hE, rfl⟩ | ⟨hE, v2, base, rfl, hbase, hrows⟩⟩ <;> refine Stop.of ?_)
        · refine Stop.go ?_
          have hB2 := chain HB.out hb2
          have hwv : wholeV M l k = none := by unfold wholeV; rw [if_neg hE]
          rw [hwv] at HNX
          have hne : (countE M l k != 0) = true := by simpa using hE
          obtain ⟨E, hEE⟩ : ∃ E, E = countE M l k := ⟨_, rfl⟩
          rw [← hEE] at hne ⊢
          clear hE hEE hwv hb2 zz0 zz1
          go_wp2
          go_ret
          rw [HNX.out]
          exact ⟨_, rfl, .inl ⟨rfl, rfl⟩, hB2⟩
        · refine Stop.go ?_
          have hB2 := chain HB.out hb2
          rw [whole_same hE] at hrows
          by_cases hone : ∃ r, wholeF M l k.toNat = [r]
          · obtain ⟨r, hr⟩ := hone
            have hwv : wholeV M l k = some r := by unfold wholeV; rw [if_pos hE, hr]
            have hrf := wholeF_facts (M := M) (y := l) (q := k.toNat) (r := r) (by rw [hr]; simp)
            rw [hwv] at HNX
            rw [hr] at hrows
            obtain ⟨g, c, rb, rc, rfl, hgc, hrb, hrsp, hgb, hgl⟩ := rowsN_one hrows
            have hrl : r.length = bn := by rw [hrf.1, HBN.out, HBL.out]
            rw [hrl] at hgc
            have HRV := hid hrf.2
            have HRL := hid hrl
            have HRS := hid hrsp
            have HBS2 := hid (HBS.out.keep (hB2.block _ HBS.out.lt))
            have HB2 := hid hB2
            have HCT := hid (fun (k : Nat) (hk : k < r.length) => addF_take r b hk)
            have HCL := hid (show (addF r b).length = bn by rw [addF_len, hrl])
            obtain ⟨C, hC⟩ : ∃ C, C = addF r b := ⟨_, rfl⟩
            rw [← hC] at HCT HCL
            have HC := hid hC
            have HG := hid (show ∀ X : World, Below w2.heap.size w2 X → X.cell? ⟨g, 0, none⟩ = some (.slice (some ⟨rb, 0, none⟩) bn rc) from fun X hX => (hX.cell (p := ⟨g, 0, none⟩) hgl).trans hgc)
            clear hrf hrl hrsp hrows hE hwv hr hb2 hB2 hgb zz0 zz1 hC hgc
            go_wp2
            go_loopw [11, 43] (fun v i wr => ∃ t : Nat, t ≤ bn ∧ i = .int .i64 t ∧ wr.ownsRow w2.heap.size 3 1 v t ((C.take t).map (Value.int .i64)) ∧ Below w2.heap.size w2 wr) (fun _ i _ => bn - (intOf i).toNat)
            case atStart => exact ⟨0, Nat.zero_le _, rfl, World.ownsRow_nil _ _ _ _, Below.refl _ _⟩
            case round =>
              obtain ⟨t, ht, rfl, ho, hbk⟩ := hrel
              by_cases hlt : t < bn
              · have htr : t < r.length := by rw [HRL.out]; exact hlt
                have hbs := (HBS2.out.keep (hbk.block _ HBS2.out.lt)).cell (j := t) (by rw [← HBN.out]; exact hlt)
                have e1 : b[t]?.getD 0 = vec b t := rfl
                rw [e1] at hbs
                have htk := HCT.out t htr
                have g1 := HRV.out t
                have g2 := HBV.out t
                have hgc := HG.out wr hbk
                have hrc := (HRS.out.keep (hbk.block _ HRS.out.lt)).cell (j := t) htr
                have er : r[t]?.getD 0 = vec r t := rfl
                rw [er] at hrc
                obtain ⟨p, hp⟩ : ∃ p, p = vec r t := ⟨_, rfl⟩
                obtain ⟨q, hq⟩ : ∃ q, q = vec b t := ⟨_, rfl⟩
                rw [← hp] at hrc htk g1
                rw [← hq] at hbs htk g2
                obtain ⟨z, hz⟩ : ∃ z, z = q + p := ⟨_, rfl⟩
                rw [← hz] at htk
                have hw : wrap64 (q + p) = z := by rw [hz]; unfold wrap64; omega
                have hw2 : IntKind.i64.wrap (q + p) = z := by rw [IntWalk.i64_left]; exact hw
                have hti : (t : Int) < (bn : Int) := by omega
                have hti0 : (0 : Int) ≤ (t : Int) := by omega
                obtain ⟨la, lc, rfl⟩ := ownsRow_slice ho
                have HTK := hid htk
                have HO := hid ho
                have M1 := hid (show t + 1 ≤ maxLen by unfold maxLen; omega)
                have M2 := hid (show (t + 1) * 8 ≤ 140737488355328 by omega)
                have HBK := hid hbk
                have M3 := hid (Nat.le_trans hbk.size (le_alloc wr (.cells #[.int .i64 z] 3)))
                clear hp hq hz g1 g2 htk e1 er htr hbk ho
                go_wp2_with (at_builtin; refine Stop.of ?_)
                refine Stop.go ?_
                (refine wpList_app _ rfl (.tmp 48) (.tmp 57) 33 rfl w2.heap.size 3 (.int .i64 0) 1 8 Tryz.underlying33 li_int rfl Nat.one_pos (.slice la t lc) t _ rfl (HO.out.alloc _) (some ⟨wr.heap.size, 0, none⟩) 1 1 [.int .i64 z] rfl rfl no_none (one_news wr _ _) (li_one _) M1.out M2.out M3.out ?_)
                intro a3 c3 w3 own3 g3
                have hB3 : Below w2.heap.size w2 w3 := (HBK.out.alloc HBK.out.size _).grown g3 M3.out (fun k hk => (HO.out.lt k hk).1)
                have HB3 := hid hB3
                have HO3 := hid own3
                clear hB3 own3 g3
                go_wp2
                refine ⟨⟨t + 1, by omega, by go_num, ?_, HB3.out⟩, by simp [intOf]; omega⟩
                rw [HTK.out]
                simpa using HO3.out
              · obtain rfl : bn = t := by omega
                rw [List.take_of_length_le (by rw [HCL.out]; exact Nat.le_refl _)] at ho
                obtain ⟨ob, oc, rfl, hob, hosp⟩ := spRow_own ho HCL.out (by omega)
                have hB3 : Below w.heap.size w wr := chain HB2.out hbk
                have HL3 := hid (HLI.out wr ob oc C (by rw [HCL.out]) hosp)
                have hpc := HPI.out C
                rw [← HC.out] at HNX
                have HSP := hid hosp
                have HB3 := hid hB3
                have hob2 : w.heap.size ≤ ob := Nat.le_trans HB2.out.size hob
                obtain ⟨B, hB⟩ : ∃ B, B = picB M C := ⟨_, rfl⟩
                rw [hpc, ← hB] at HL3
                have HNY := hid (show nextF M k (some b) (false, l) = if B = true then some C else none from by rw [hB]; exact HNX.out)
                clear ho hbk hosp hB3 hpc hB HNX hob
                cases B
                · go_wp2_with (go_at_call 58; refine HL3.out.mono ?_; rintro e w4 ⟨rfl, rfl⟩)
                  go_ret
                  rw [HNY.out]
                  exact ⟨_, rfl, .inl ⟨rfl, rfl⟩, HB3.out⟩
                · go_wp2_with (go_at_call 58; refine HL3.out.mono ?_; rintro e w4 ⟨rfl, rfl⟩)
                  go_ret
                  rw [HNY.out]
                  exact ⟨.slice (some ⟨ob, 0, none⟩) bn oc, rfl, .inr ⟨C, ob, oc, rfl, by rw [HCL.out], hob2, trivial, HSP.out, by rw [HCL.out]; exact hb1', by rw [HCL.out]; exact hbm⟩, HB3.out⟩
          · have hwv : wholeV M l k = none := by
              unfold wholeV
              rw [if_pos hE]
              split
              · rename_i r hr; exact absurd ⟨r, hr⟩ hone
              · rfl
            rw [hwv] at HNX
            obtain ⟨va, vc, rfl, hlm, _, _⟩ := hrows.rowsO.reads
            obtain ⟨ln, hln⟩ : ∃ ln, ln = (wholeF M l k.toNat).length := ⟨_, rfl⟩
            have hln1 : ln ≠ 1 := fun h => hone (by rw [hln] at h; exact List.length_eq_one_iff.1 h)
            have hne : ((ln : Int) != 1) = true := by simp; omega
            rw [← hln]
            clear hE hwv hone hrows hlm hln hln1 hb2 zz0 zz1
            go_wp2
            go_ret
            rw [HNX.out]
            exact ⟨_, rfl, .inl ⟨rfl, rfl⟩, hB2⟩
    · have hnx : nextF M k o (true, l) = some l := by unfold nextF; rw [if_neg (by rw [hn2]; exact h0), if_pos rfl]
      rw [hnx]
      have hl10 : l.length ≤ 10 := by
        unfold frB at hf
        have : picB M l = true := by simpa [hn2, h0] using hf
        have := (pic_bnd this).1
        omega
      have HN2 := hid hn2
      have hx10 : n2 ≤ 10 := by omega
      have HX0 := hid (show a2 = none → n2 = 0 from fun h => by subst h; rcases Nat.eq_zero_or_pos n2 with h | h; exact h; obtain ⟨_, _, e, _⟩ := H2 0 (by omega); cases e)
      have HNW := hid (show ∀ X : World, Below w.heap.size w X → ∀ ad, a2 = some ad → ∀ j u, (l.map (Value.int .i64))[j]? = some u → X.cell? (ad.add j) = some u from fun X hX => news_ints H2 hX)
      have HZB := hid (show ∀ X : World, Below (w.heap.size + 1) (w.alloc (.cells #[.bool true, .slice a2 n2 cap2] 47)) X → X.cell? ⟨w.heap.size, 1, none⟩ = some (.slice a2 n2 cap2) from fun X hX => (hX.cell (p := ⟨w.heap.size, 1, none⟩) (by show w.heap.size < _; simp)).trans z1)
      have hn0 : 0 < n2 := by omega
      have HN0 := hid hn0
      clear hnx hn hn2 hm2 H H2 hf ho hoo hbz hwz h0 hl10 hn0
      go_enter Tryz.func64, Tryz.ntmps64
      have HZ0 := hid z0
      have M := World.ownsRow_made (base := w.heap.size + 1) (e := 3) (size := 1) (w.alloc (.cells #[.bool true, .slice a2 n2 cap2] 47)) #[] 0 (by simp) (Nat.zero_le _) rfl
      have hbA := HB.out.alloc HB.out.size (.cells #[] 3)
      rw [World.size_alloc] at M
      go_wp2_with (at_builtin; refine Stop.of ?_)
      refine Stop.go ?_
      (refine wpList_app _ rfl (.tmp 20) (.tmp 22) 33 rfl (w.heap.size + 1) 3 (.int .i64 0) 1 8 Tryz.underlying33 li_int rfl Nat.one_pos (.slice (some ⟨w.heap.size + 1, 0, none⟩) 0 0) 0 [] rfl M a2 n2 cap2 (l.map (Value.int .i64)) rfl (by rw [List.length_map, HN2.out, Nat.mul_one]) HX0.out (HNW.out _ hbA) (ints_one _) (by rw [Nat.zero_add]; unfold maxLen; omega) (by omega) (by first | omega | (simp; omega) | simp) ?_)
      intro ca cc w5 own5 g5
      rw [Nat.zero_add, List.nil_append] at own5
      rw [Nat.zero_add]
      have hb5 := hbA.grown g5 hbA.size (fun g hg => by have := (M.lt g hg).1; omega)
      go_wp2
      go_ret
      obtain ⟨g, c, e, hg, hsp⟩ := spRow_own own5 HN2.out HN0.out
      refine ⟨.slice ca n2 cc, rfl, .inr ⟨l, g, c, rfl, by rw [HN2.out]; exact e, by omega, trivial, hsp, by have := HN2.out; have := HN0.out; omega, by rw [HN2.out]; unfold maxLen; omega⟩, hb5⟩
end Go.Proofs.YtkmjeegnijohmaaGreat

namespace Go.Proofs.YtkmjeegnijohmaaGreat
open Go.RowKit
set_option linter.unusedVariables false

theorem FrmsO.set {W : World} {base g n c k : Nat} {S : Nat → Prop} {F : List Frm} {u : Value} {l : List Int} (h : FrmsO W base S (.slice (some ⟨g, 0, none⟩) n c) F) (hk : k < F.length) (hu : ElemI 3 W base S u l) :
    FrmsO (W.setCell ⟨g, k * 2 + 1, none⟩ u) base S (.slice (some ⟨g, 0, none⟩) n c) (F.set k (F[k].1, l)) := by
  obtain ⟨xs, ho, hg, he⟩ := h
  rcases ho.2 with ⟨e, _⟩ | ⟨g', cap, cur, e, hbg, hgg, hnc, hcm, hsz, htk⟩
  · cases e
  · cases e
    have hel : ∀ u' l', ElemI 3 W base S u' l' → ElemI 3 (W.setCell ⟨g, k * 2 + 1, none⟩ u) base S u' l' := by
      intro u' l' h
      refine h.keep (T := fun b => b ≠ g) (Keep.set _ _ _ _) fun b _ hb hty e => ?_
      subst e
      rcases hty with h | ⟨c, f, h⟩
      · omega
      · rw [h] at hgg; cases hgg
    have hxl : xs.length = F.length * 2 := ho.1
    refine ⟨xs.set (k * 2 + 1) u, ⟨by simp [hxl], .inr ⟨g, c, cur.setIfInBounds (k * 2 + 1) u, by simp, hbg, cells_set hgg _ _, by simpa using hnc, hcm, by simpa using hsz, ?_⟩⟩, hg, fun j hj => ?_⟩
    · rw [Array.toList_setIfInBounds, List.length_set]
      rw [← htk, List.take_set]
    · rw [List.length_set] at hj
      obtain ⟨k1, u', k2, k3⟩ := he j hj
      by_cases e : j = k
      · subst e
        refine ⟨by rw [List.getElem?_set_ne (by omega), List.getElem_set_self]; exact k1, u, by rw [List.getElem?_set_self (by omega)], ?_⟩
        rw [List.getElem_set_self]; exact hel _ _ hu
      · refine ⟨by rw [List.getElem?_set_ne (by omega), List.getElem_set_ne (by omega)]; exact k1, u', by rw [List.getElem?_set_ne (by omega)]; exact k2, ?_⟩
        rw [List.getElem_set_ne (by omega)]; exact hel _ _ k3
end Go.Proofs.YtkmjeegnijohmaaGreat

namespace Go.Proofs.YtkmjeegnijohmaaGreat
open Go.RowKit
set_option linter.unusedVariables false

set_option maxRecDepth 100000 in
set_option maxHeartbeats 1000000 in
theorem sSizes_c (w : World) (a a2 : Option Addr) (n cap n2 cap2 : Nat) (M : Mask) (p : List (List Int)) (hn : M.length = n) (hm : n ≤ maxLen) (H : RowsAt w a M) (hn2 : p.length = n2) (hm2 : n2 ≤ maxLen) (hcap : n2 ≤ cap2) (H2 : RowsAt w a2 p) :
    Calls Tryz.prog 14 #[.slice a n cap, .slice a2 n2 cap2] w fun e w' => Below w.heap.size w w' ∧
      ((picsB M p = false ∧ e = .returned (.tuple #[.slice none 0 0, .int .i64 1])) ∨ (picsB M p = true ∧ ∃ v base, e = .returned (.tuple #[v, .int .i64 0]) ∧ w.heap.size ≤ base ∧ w'.ownsRow base 3 1 v (n2 - 1) ((sizesF p).map (Value.int .i64)))) := by
  have HV := hid (validPics_c w a n cap M hn hm H a2 n2 cap2 p hn2 hm2 H2)
  cases hP : picsB M p
  · rw [hP] at HV
    clear hn H hn2 H2 hP
    go_enter Tryz.func14, Tryz.ntmps14
    go_wp2_with (go_at_call 31; refine HV.out.mono ?_; rintro e w1 ⟨rfl, hb1⟩)
    go_ret2
    exact ⟨hb1, .inl ⟨trivial, rfl⟩⟩
  · rw [hP] at HV
    obtain ⟨hM, hp1, hp60, hpp⟩ := picsB_ok hP
    have HN2 := hid hn2
    have HH2 := hid H2
    have HCT := hid (fun (k : Nat) (hk : k < p.length - 1) => sizesF_take p hk)
    have HCL := hid (show (sizesF p).length = n2 - 1 by rw [sizesF_len, hn2])
    have HPG := hid (fun (i : Nat) (hi : i < p.length) => pic_bnd (picsB_get hP hi))
    obtain ⟨_, _, _, hc1, hc10⟩ := okM_ok hM
    obtain ⟨C, hC⟩ : ∃ C, C = sizesF p := ⟨_, rfl⟩
    rw [← hC] at HCT HCL ⊢
    have hn60 : n2 ≤ 60 := by omega
    obtain ⟨b, off, rfl, hbs0⟩ : ∃ b off, a2 = some ⟨b, off, none⟩ ∧ b < w.heap.size := by obtain ⟨b, off, _, _, _, e, h, _⟩ := H2 0 (by omega); exact ⟨b, off, e, h⟩
    have hi1 : (1 : Int) ≤ (n2 : Int) := by omega
    have hi2 : (n2 : Int) ≤ (cap2 : Int) := by omega
    obtain ⟨N, rfl⟩ : ∃ N, n2 = N + 1 := ⟨n2 - 1, by omega⟩
    rw [Nat.add_sub_cancel] at HCL ⊢
    clear hn H hn2 H2 hP hC hpp hM hp1 hp60 hm2
    go_enter Tryz.func14, Tryz.ntmps14
    go_wp2_with (go_at_call 31; refine HV.out.mono ?_; rintro e w1 ⟨rfl, hb1⟩)
    · rename_i h
      subst h
      obtain rfl : N = 0 := by omega
      go_loopw [6, 19] (fun v i wr => i = .int .i64 0 ∧ v = .slice none 0 0 ∧ w1 = wr) (fun _ i _ => 0 - (intOf i).toNat)
      case atStart => exact ⟨rfl, rfl, rfl⟩
      case round =>
        obtain ⟨rfl, rfl, rfl⟩ := hrel
        go_wp2
        go_ret2
        exact ⟨hb1, .inr ⟨trivial, _, w1.heap.size, rfl, hb1.size, by rw [List.eq_nil_of_length_eq_zero HCL.out]; exact World.ownsRow_nil _ _ _ _⟩⟩
    · rename_i h
      have hcp := h
      clear h
      obtain ⟨q, hq⟩ : ∃ q, q = N + 1 := ⟨_, rfl⟩
      rw [← hq]
      rw [← hq] at hi1 hi2 hn60
      have HQ := hid hq
      obtain ⟨o1, ho1⟩ : ∃ o1, o1 = off + 1 := ⟨_, rfl⟩
      rw [← ho1]
      have HO1 := hid ho1
      generalize cap2 - 1 = cap1
      clear hq hcp ho1
      go_loopw [6, 19] (fun v i wr => ∃ k : Nat, k ≤ N ∧ i = .int .i64 k ∧ wr.ownsRow w1.heap.size 3 1 v k ((C.take k).map (Value.int .i64)) ∧ Below w1.heap.size w1 wr) (fun _ i _ => N - (intOf i).toNat)
      case atStart => exact ⟨0, Nat.zero_le _, rfl, World.ownsRow_nil _ _ _ _, Below.refl _ _⟩
      case round =>
        obtain ⟨k, hk, rfl, ho, hbk⟩ := hrel
        by_cases hlt : k < N
        · have hkl : k < p.length := by rw [HN2.out]; omega
          have hkl1 : k + 1 < p.length := by rw [HN2.out]; omega
          have hbw := chain hb1 hbk
          obtain ⟨b1, off1, xa, xn, xc, e1, hbs1, hc, hxn, hxm, hxi⟩ := (HH2.out.below hbw) k hkl
          cases e1
          obtain ⟨b2, off2, ya, yn, yc, e2, hbs2, hc2, hyn, hym, hyi⟩ := (HH2.out.below hbw) (k + 1) hkl1
          cases e2
          rw [show off + (k + 1) = o1 + k by have := HO1.out; omega] at hc2
          have htk := HCT.out k (by rw [HN2.out]; omega)
          have hxv : p[k]?.getD [] = p[k] := by rw [List.getElem?_eq_getElem hkl]; rfl
          have hyv : p[k + 1]?.getD [] = p[k + 1] := by rw [List.getElem?_eq_getElem hkl1]; rfl
          have hpx := HPG.out k hkl
          have hpy := HPG.out (k + 1) hkl1
          rw [hxv] at hpx htk
          rw [hyv] at hpy htk
          obtain ⟨x, hx⟩ : ∃ x, x = p[k]'hkl := ⟨_, rfl⟩
          obtain ⟨y, hy⟩ : ∃ y, y = p[k + 1]'hkl1 := ⟨_, rfl⟩
          rw [← hx] at hxn hxi hpx htk
          rw [← hy] at hyn hyi hpy htk
          obtain rfl : yn = xn := by have := hpx.1; have := hpy.1; omega
          have HCH := hid (schange_c wr xa ya yn xc yc x y hxn hyn (by have := hpx.1; omega) hxi hyi hpx.2 hpy.2)
          have hdl : (changeF x y).length = yn := by rw [changeF_len]; exact hyn
          have HST := hid (fun (t : Nat) (ht : t < (changeF x y).length) => sizeL_take (changeF x y) ht)
          have hsl := sizeL_le (changeF x y)
          have hyn10 : yn ≤ 10 := by have := hpx.1; omega
          obtain ⟨D, hD⟩ : ∃ D, D = changeF x y := ⟨_, rfl⟩
          rw [← hD] at HCH hdl HST hsl htk
          have HTK := hid htk
          have HDL := hid hdl
          have HSL := hid hsl
          have HO := hid ho
          have HBK := hid hbk
          have hki : (k : Int) < (N : Int) := by omega
          have hki0 : (0 : Int) ≤ (k : Int) := by omega
          have hki1 : (k : Int) < (q : Int) := by have := HQ.out; omega
          clear htk hdl hsl hD hxn hxi hyn hyi hpx hpy hxv hyv hx hy ho hbk hbw
          go_wp2_with (go_at_call 38; refine HCH.out.mono ?_; rintro e w6 ⟨v6, rfl, ho6, hb6⟩; refine Stop.of ?_)
          refine Stop.go ?_
          obtain ⟨da, dc, rfl, hdi, hdm⟩ := ints_of_own ho6 HDL.out
          have HDI := hid hdi
          have HB6 := hid hb6
          have HBK6 := hid (chain HBK.out hb6)
          have HO6 := hid (own_below HO.out hb6)
          clear ho6 hdi hb6 hc hc2
          go_wp2
          go_loopw [9, 31] (fun nv i wq => ∃ t : Nat, t ≤ yn ∧ i = .int .i64 t ∧ nv = .int .i64 (sizeL (D.take t) : Nat) ∧ w6 = wq) (fun _ i _ => yn - (intOf i).toNat)
          case atStart => exact ⟨0, Nat.zero_le _, rfl, by simp [sizeL], rfl⟩
          case round =>
            obtain ⟨t, ht, rfl, rfl, rfl⟩ := hrel
            by_cases hlt2 : t < yn
            · have htl : t < D.length := by rw [HDL.out]; exact hlt2
              obtain ⟨db, doff, rfl, hdb, hdc⟩ := HDI.out t htl
              have hst := HST.out t htl
              have hle : sizeL (D.take t) ≤ 10 := by
                have h1 := sizeL_le (D.take t)
                rw [List.length_take] at h1
                omega
              obtain ⟨d, hd⟩ : ∃ d, d = D[t]?.getD 0 := ⟨_, rfl⟩
              rw [← hd] at hdc hst
              obtain ⟨s0, hs0⟩ : ∃ s, s = sizeL (D.take t) := ⟨_, rfl⟩
              rw [← hs0] at hst hle ⊢
              have hti : (t : Int) < (yn : Int) := by omega
              have hti0 : (0 : Int) ≤ (t : Int) := by omega
              have HST2 := hid hst
              have HDC := hid hdb
              clear hd hs0 hst hdb htl
              by_cases hd0 : d = 0
              · have hdn : (d != 0) = false := by simp [hd0]
                have hst3 : sizeL (D.take (t + 1)) = s0 := by rw [HST2.out, if_neg (fun h => h hd0)]; rfl
                have HST3 := hid hst3
                clear hst3 hd0
                go_wp2
                refine ⟨⟨t + 1, by omega, by go_num, by rw [HST3.out] <;> first | rfl | (congr 1) | simp, trivial⟩, by simp [intOf]; omega⟩
              · have hdn : (d != 0) = true := by simp [hd0]
                have hst3 : sizeL (D.take (t + 1)) = s0 + 1 := by rw [HST2.out, if_pos hd0]
                have HST3 := hid hst3
                have hw : wrap64 ((s0 : Int) + 1) = ((s0 + 1 : Nat) : Int) := by unfold wrap64; omega
                have hw2 : IntKind.i64.wrap ((s0 : Int) + 1) = ((s0 + 1 : Nat) : Int) := by rw [IntWalk.i64_left]; exact hw
                clear hst3 hd0
                go_wp2
                refine ⟨⟨t + 1, by omega, by go_num, by rw [HST3.out] <;> first | rfl | (congr 1) | simp, trivial⟩, by simp [intOf]; omega⟩
            · obtain rfl : t = yn := by omega
              rw [List.take_of_length_le (by rw [HDL.out]; exact Nat.le_refl _)]
              obtain ⟨la, lc, rfl⟩ := ownsRow_slice HO6.out
              obtain ⟨z, hz⟩ : ∃ z, z = ((sizeL D : Nat) : Int) := ⟨_, rfl⟩
              have htk := HTK.out
              rw [← hz] at htk ⊢
              have HTK2 := hid htk
              have M1 := hid (show k + 1 ≤ maxLen by unfold maxLen; omega)
              have M2 := hid (show (k + 1) * 8 ≤ 140737488355328 by omega)
              have M3 := hid (Nat.le_trans HBK6.out.size (le_alloc w6 (.cells #[.int .i64 z] 3)))
              clear htk hz
              go_wp2_with (at_builtin; refine wpList_app _ rfl (.tmp 40) (.tmp 42) 33 rfl w1.heap.size 3 (.int .i64 0) 1 8 Tryz.underlying33 li_int rfl Nat.one_pos (.slice la k lc) k _ rfl (HO6.out.alloc _) (some ⟨w6.heap.size, 0, none⟩) 1 1 [.int .i64 z] rfl rfl no_none (one_news w6 _ _) (li_one _) M1.out M2.out M3.out ?_; refine Stop.of ?_)
              refine Stop.go ?_
              intro a3 c3 w3 own3 g3
              have hB3 : Below w1.heap.size w1 w3 := (HBK6.out.alloc HBK6.out.size _).grown g3 M3.out (fun k hk => (HO6.out.lt k hk).1)
              go_wp2
              refine ⟨⟨k + 1, by omega, by go_num, ?_, hB3⟩, by simp [intOf]; omega⟩
              rw [HTK2.out]
              simpa using own3
        · obtain rfl : N = k := by omega
          rw [List.take_of_length_le (by rw [HCL.out]; exact Nat.le_refl _)] at ho
          go_wp2
          go_ret2
          exact ⟨chain hb1 hbk, .inr ⟨trivial, _, w1.heap.size, rfl, hb1.size, ho⟩⟩
end Go.Proofs.YtkmjeegnijohmaaGreat

namespace Go.Proofs.YtkmjeegnijohmaaGreat
open Go.RowKit
set_option linter.unusedVariables false

def szE (M : Mask) (p : List (List Int)) : Int := if picsB M p = true then 0 else 1
def szL (M : Mask) (p : List (List Int)) : List Int := if picsB M p = true then sizesF p else []

theorem ints_nil {W : World} {a : Option Addr} : IntsAt W a [] := fun j hj => by simp at hj
theorem sSizesU_c (w : World) (a a2 : Option Addr) (n cap n2 cap2 : Nat) (M : Mask) (p : List (List Int)) (hn : M.length = n) (hm : n ≤ maxLen) (H : RowsAt w a M) (hn2 : p.length = n2) (hm2 : n2 ≤ maxLen) (hcap : n2 ≤ cap2) (H2 : RowsAt w a2 p) :
    Calls Tryz.prog 14 #[.slice a n cap, .slice a2 n2 cap2] w fun e w' => ∃ va vc, e = .returned (.tuple #[.slice va (szL M p).length vc, .int .i64 (szE M p)]) ∧ (szL M p).length ≤ maxLen ∧ IntsAt w' va (szL M p) ∧ Below w.heap.size w w' := by
  refine (sSizes_c w a a2 n cap n2 cap2 M p hn hm H hn2 hm2 hcap H2).mono ?_
  rintro e w' ⟨hb, ⟨h, rfl⟩ | ⟨h, v, base, rfl, _, ho⟩⟩
  · have hL : szL M p = [] := by unfold szL; rw [if_neg (by rw [h]; simp)]
    have hE : szE M p = 1 := by unfold szE; rw [if_neg (by rw [h]; simp)]
    rw [hL, hE]
    exact ⟨none, 0, rfl, by decide, ints_nil, hb⟩
  · have hL : szL M p = sizesF p := by unfold szL; rw [if_pos h]
    have hE : szE M p = 0 := by unfold szE; rw [if_pos h]
    have hlen : (sizesF p).length = n2 - 1 := by rw [sizesF_len, hn2]
    rw [hL, hE]
    obtain ⟨va, vc, rfl, hi, hm'⟩ := ints_of_own ho hlen
    exact ⟨va, vc, by rw [hlen], by rw [hlen]; exact hm', hi, hb⟩
end Go.Proofs.YtkmjeegnijohmaaGreat

namespace Go.Proofs.YtkmjeegnijohmaaGreat
open Go.RowKit
set_option linter.unusedVariables false

theorem validB_ok {M : Mask} {F : List Frm} (h : validB M F = true) : okM M = true ∧ 1 ≤ F.length ∧ F.length ≤ 60 ∧ ∀ f ∈ F, f.2.length ≤ 1000 := by
  unfold validB inB at h
  simp only [Bool.and_eq_true, decide_eq_true_eq, List.all_eq_true] at h
  obtain ⟨⟨⟨hM, h1⟩, _⟩, h2⟩ := h
  obtain ⟨_, _, h6, _, h10⟩ := okM_ok hM
  refine ⟨hM, by omega, by omega, fun f hf => ?_⟩
  have := h2 f hf
  unfold frB at this
  simp only [Bool.or_eq_true, Bool.and_eq_true, decide_eq_true_eq] at this
  rcases this with (h | ⟨_, h⟩) | ⟨_, h, _⟩
  · omega
  · have := (pic_bnd h).1; omega
  · omega

end Go.Proofs.YtkmjeegnijohmaaGreat

namespace Go.Proofs.YtkmjeegnijohmaaGreat
open Go.RowKit
set_option linter.unusedVariables false
attribute [local go_sem] Oper.semAt_some

structure MissI (w w3 : World) (ob : Nat) (fp : Nat → Prop) (S : Nat → Prop) (L : List Int) (Z : World) : Prop where
  b : Below w.heap.size w Z
  f : Keep fp w3 Z
  o : ∃ v, Boxed Z ob 33 v ∧ Z.ownsRow (w3.heap.size + 2) 3 1 v L.length (L.map (Value.int .i64)) ∧ ∀ k, v.ownBlock = some k → ¬ S k ∧ k ≠ ob ∧ k ≠ w3.heap.size ∧ k ≠ w3.heap.size + 1
  z : w3.heap.size + 2 ≤ Z.heap.size

theorem own_keep2 {W W' : World} {base : Nat} {T : TypeId} {k n : Nat} {v : Value} {xs : List Value} (h : W.ownsRow base T k v n xs) {K : Nat → Prop} (hk : Keep K W W') (hK : ∀ g, v.ownBlock = some g → K g) : W'.ownsRow base T k v n xs := by
  refine ⟨h.1, ?_⟩
  rcases h.2 with hn | ⟨g, cap, cur, rfl, hbg, hgg, rest⟩
  · exact .inl hn
  · exact .inr ⟨g, cap, cur, rfl, hbg, (hk.block g (Array.getElem?_eq_some_iff.1 hgg).1 (hK g rfl)).trans hgg, rest⟩

theorem MissI.keep {w w3 : World} {ob : Nat} {fp S S' : Nat → Prop} {L : List Int} {A B : World} (h : MissI w w3 ob fp S L A) (h1 : ∀ k, S k → S' k) (h2 : ∀ k, S' k → S k ∨ A.heap.size ≤ k) (h3 : ∀ k, S' k → w3.heap.size + 2 ≤ k)
    (hob : ob < w3.heap.size) (hfp : ∀ k, fp k → k < w3.heap.size) (hw : w.heap.size ≤ w3.heap.size) (hk : Keep (fun k => k ≠ w3.heap.size ∧ k ≠ w3.heap.size + 1 ∧ ¬ S' k) A B) : MissI w w3 ob fp S' L B where
  b := by
    have hz := h.z
    exact hk.below h.b (Nat.le_trans hw (by omega)) (fun k hlt => ⟨by omega, by omega, fun hs => by have := h3 k hs; omega⟩)
  f := h.f.trans (hk.mono fun k hlt => by have := hfp k hlt; exact ⟨by omega, by omega, fun hs => by have := h3 k hs; omega⟩)
  o := by
    obtain ⟨v, hv, ho, hg⟩ := h.o
    have hg' : ∀ k, v.ownBlock = some k → ¬ S' k ∧ k ≠ ob ∧ k ≠ w3.heap.size ∧ k ≠ w3.heap.size + 1 := fun k hk' => by
      obtain ⟨g1, g2⟩ := hg k hk'
      refine ⟨fun hs => ?_, g2⟩
      rcases h2 k hs with g | g
      · exact g1 g
      · have := (ho.lt k hk').2; omega
    exact ⟨v, (hk.block ob hv.lt ⟨by omega, by omega, fun hs => by have := h3 _ hs; omega⟩).trans hv, own_keep2 ho hk (fun g hgk => ⟨(hg' g hgk).2.2.1, (hg' g hgk).2.2.2, (hg' g hgk).1⟩), hg'⟩
  z := Nat.le_trans h.z hk.size

theorem MissI.push {w w3 Z w9 : World} {ob : Nat} {fp Sr : Nat → Prop} {L : List Int} {v v' : Value} {x : Int} {o8 : Obj}
    (hI : MissI w w3 ob fp Sr L Z) (hBo : Boxed Z ob 33 v) (ho : Z.ownsRow (w3.heap.size + 2) 3 1 v L.length (L.map (Value.int .i64)))
    (hg : ∀ k, v.ownBlock = some k → ¬ Sr k ∧ k ≠ ob ∧ k ≠ w3.heap.size ∧ k ≠ w3.heap.size + 1)
    (g5 : (Z.alloc o8).grownBy w9 v.ownBlock) (own5 : w9.ownsRow (w3.heap.size + 2) 3 1 v' (L.length + 1) (L.map (Value.int .i64) ++ [.int .i64 x]))
    (hat : v'.ownBlock = v.ownBlock ∨ v'.ownBlock = some (Z.alloc o8).heap.size) (hSr : ∀ k, Sr k → w3.heap.size + 2 ≤ k ∧ k < Z.heap.size) (hob : ob < w3.heap.size) (hfp : ∀ k, fp k → k < w3.heap.size ∧ k ≠ ob) (hw : w.heap.size ≤ ob) :
    Z.heap.size ≤ (w9.setCell ⟨ob, 0, none⟩ v').heap.size ∧ (∀ k, (fp k ∨ k = w3.heap.size ∨ k = w3.heap.size + 1 ∨ Sr k) → (w9.setCell ⟨ob, 0, none⟩ v').heap[k]? = Z.heap[k]?) ∧ MissI w w3 ob fp Sr (L ++ [x]) (w9.setCell ⟨ob, 0, none⟩ v') := by
  have hz := hI.z
  have hlo : ∀ k, v.ownBlock = some k → w3.heap.size + 2 ≤ k := fun k hk => (ho.lt k hk).1
  have ha : Below Z.heap.size Z (Z.alloc o8) := (Below.refl _ _).alloc (Nat.le_refl _) _
  have hset : Keep (fun k => k ≠ ob) w9 (w9.setCell ⟨ob, 0, none⟩ v') := Keep.set w9 ob 0 v'
  have hT : Keep (fun k => k ≠ ob ∧ some k ≠ v.ownBlock) Z (w9.setCell ⟨ob, 0, none⟩ v') :=
    (Keep.of_below ha).trans (((Keep.grown g5).mono fun k hk => hk.2).trans (hset.mono fun k hk => hk.1))
  have hPk : ∀ k, (fp k ∨ k = w3.heap.size ∨ k = w3.heap.size + 1 ∨ Sr k) → k < Z.heap.size ∧ k ≠ ob ∧ some k ≠ v.ownBlock := fun k hk => by
    rcases hk with h | h | h | h
    · exact ⟨by have := (hfp k h).1; omega, (hfp k h).2, fun e => by have := hlo k e.symm; have := (hfp k h).1; omega⟩
    · exact ⟨by omega, by omega, fun e => (hg k e.symm).2.2.1 h⟩
    · exact ⟨by omega, by omega, fun e => (hg k e.symm).2.2.2 h⟩
    · exact ⟨(hSr k h).2, by have := (hSr k h).1; omega, fun e => (hg k e.symm).1 h⟩
  have hat' : ∀ k, v'.ownBlock = some k → ¬ Sr k ∧ k ≠ ob ∧ k ≠ w3.heap.size ∧ k ≠ w3.heap.size + 1 := fun k hk => by
    rcases hat with e | e
    · exact hg k (by rw [← e]; exact hk)
    · rw [e] at hk
      have : (Z.alloc o8).heap.size = Z.heap.size + 1 := by simp
      cases hk
      exact ⟨fun h => by have := (hSr _ h).2; omega, by omega, by omega, by omega⟩
  refine ⟨hT.size, fun k hk => hT.block k (hPk k hk).1 (hPk k hk).2, ⟨hT.below hI.b (by have := hI.b.size; omega) (fun k hlt => ⟨by omega, fun e => by have := hlo k e.symm; omega⟩), hI.f.trans (hT.mono fun k hk => (hPk k (.inl hk)).2), ⟨v', ?_, ?_, hat'⟩, Nat.le_trans hz hT.size⟩⟩
  · refine Boxed.set v' (v := v) ?_
    have h1 : Boxed (Z.alloc o8) ob 33 v := hBo.alloc _
    exact h1.kept g5 (fun e => (hg ob e.symm).2.1 rfl)
  · rw [List.length_append, List.map_append]
    exact own_set own5 v' (fun g hgk => (hat' g hgk).2.1)

end Go.Proofs.YtkmjeegnijohmaaGreat

namespace Go.Proofs.YtkmjeegnijohmaaGreat
open Go.RowKit
set_option linter.unusedVariables false

theorem OptV.oneCell {W : World} {base : Nat} {S : Nat → Prop} {o : Option (List Int)} {u : Value} (h : OptV W base S o u) : u.oneCell' = true := by
  rcases h with ⟨_, rfl⟩ | ⟨x, b, c, _, rfl, _⟩ <;> rfl
theorem OptV.slice {W : World} {base : Nat} {S : Nat → Prop} {o : Option (List Int)} {u : Value} (h : OptV W base S o u) : ∃ a c, u = .slice a (o.getD []).length c ∧ (o.getD []).length ≤ maxLen ∧ IntsAt W a (o.getD []) ∧ (a = none ↔ o = none) := by
  rcases h with ⟨rfl, rfl⟩ | ⟨x, b, c, rfl, rfl, _, _, h, _, h2⟩
  · exact ⟨none, 0, rfl, by simp, fun j hj => by simp at hj, by simp⟩
  · exact ⟨_, c, rfl, h2, h.ints, by simp⟩
def PicsO (W : World) (base : Nat) (S : Nat → Prop) (v : Value) (os : List (Option (List Int))) : Prop :=
  ∃ vs, W.ownsRow base 33 1 v os.length vs ∧ (∀ k, v.ownBlock = some k → S k) ∧ ∀ j (hj : j < os.length), ∃ u, vs[j]? = some u ∧ OptV W base S os[j] u
theorem PicsO.nil (W : World) (base : Nat) (S : Nat → Prop) : PicsO W base S (.slice none 0 0) [] :=
  ⟨[], World.ownsRow_nil _ _ _ _, fun k hk => by simp [Value.ownBlock] at hk, fun j hj => by simp at hj⟩
theorem PicsO.slice {W : World} {base : Nat} {S : Nat → Prop} {v : Value} {T : List (Option (List Int))} (h : PicsO W base S v T) : ∃ a c, v = .slice a T.length c := by
  obtain ⟨xs, ho, _⟩ := h; exact ownsRow_slice ho
theorem PicsO.keep {W W' : World} {base : Nat} {S S' K : Nat → Prop} {v : Value} {ls : List (Option (List Int))} (h : PicsO W base S v ls) (hk : Keep K W W') (hS : ∀ b, S b → b < W.heap.size → K b ∧ S' b) : PicsO W' base S' v ls := by
  obtain ⟨vs, ho, hg, he⟩ := h
  refine ⟨vs, ⟨ho.1, ?_⟩, fun k hk' => ?_, fun j hj => ?_⟩
  · rcases ho.2 with hn | ⟨g, cap, cur, rfl, hb, hgg, rest⟩
    · exact .inl hn
    · have hlt := (Array.getElem?_eq_some_iff.1 hgg).1
      exact .inr ⟨g, cap, cur, rfl, hb, (hk.block g hlt (hS g (hg g rfl) hlt).1).trans hgg, rest⟩
  · rcases ho.2 with ⟨rfl, _⟩ | ⟨g, cap, cur, rfl, hb, hgg, rest⟩
    · simp [Value.ownBlock] at hk'
    · obtain rfl : g = k := by simpa [Value.ownBlock] using hk'
      exact (hS g (hg g rfl) (Array.getElem?_eq_some_iff.1 hgg).1).2
  · obtain ⟨u, hu, hel⟩ := he j hj
    exact ⟨u, hu, hel.keep hk (fun b _ hb hs => hS b hs hb)⟩
theorem PicsO.below {W W' : World} {base : Nat} {S : Nat → Prop} {v : Value} {ls : List (Option (List Int))} (h : PicsO W base S v ls) (hb : Below W.heap.size W W') : PicsO W' base S v ls :=
  h.keep (Keep.of_below hb : Keep (fun _ => True) _ _) (fun _ h _ => ⟨trivial, h⟩)
theorem OptV.grown {W w1 w2 : World} {base n : Nat} {S : Nat → Prop} {v u : Value} {l : Option (List Int)} {vs : List Value} (ho : W.ownsRow base 33 1 v n vs) (h : OptV W base S l u) (hW1 : Below W.heap.size W w1) (hg : w1.grownBy w2 v.ownBlock) : OptV w2 base S l u := by
  rcases h with (h | ⟨x, b, cap, e, e2, h1, h2, h3, h4⟩)
  · exact .inl h
  refine .inr ⟨x, b, cap, e, e2, h1, h2, h3.keep ((hg.block b (Nat.lt_of_lt_of_le h3.lt hW1.size) ?_).trans (hW1.block b h3.lt)), h4⟩
  rcases ho.2 with ⟨rfl, _⟩ | ⟨g, cap, cur, rfl, hbg, hgg, _⟩
  · simp [Value.ownBlock]
  · intro e
    obtain rfl : b = g := by simpa [Value.ownBlock] using e
    obtain ⟨sp, h3⟩ := h3
    rw [h3] at hgg; cases hgg
theorem PicsO.snoc {W w1 w2 : World} {base : Nat} {S : Nat → Prop} {v v' u : Value} {ls : List (Option (List Int))} {l : Option (List Int)} {vs : List Value}
    (ho : W.ownsRow base 33 1 v ls.length vs) (he : ∀ j (hj : j < ls.length), ∃ u, vs[j]? = some u ∧ OptV W base S ls[j] u) (hu : OptV W base S l u)
    (hW1 : Below W.heap.size W w1) (hg : w1.grownBy w2 v.ownBlock) (ho' : w2.ownsRow base 33 1 v' (ls.length + 1) (vs ++ [u])) (hS' : ∀ k, v'.ownBlock = some k → S k) : PicsO w2 base S v' (ls ++ [l]) := by
  have hlen : vs.length = ls.length := by have := ho.1; omega
  have hel : ∀ u l, OptV W base S l u → OptV w2 base S l u := fun u l h => h.grown ho hW1 hg
  refine ⟨vs ++ [u], by simpa using ho', hS', fun j hj => ?_⟩
  by_cases e : j < ls.length
  · obtain ⟨u', hu', hel'⟩ := he j e
    refine ⟨u', by rw [List.getElem?_append_left (by omega)]; exact hu', ?_⟩
    rw [List.getElem_append_left e]
    exact hel _ _ hel'
  · have : j = ls.length := by simp at hj; omega
    subst this
    refine ⟨u, by rw [List.getElem?_append_right (by omega), hlen]; simp, ?_⟩
    simp only [List.getElem_append_right (Nat.le_refl _), Nat.sub_self, List.getElem_cons_zero]
    exact hel _ _ hu
def OptsAt (W : World) (a : Option Addr) (os : List (Option (List Int))) : Prop :=
  ∀ j (hj : j < os.length), ∃ b off ra rn rc, a = some ⟨b, off, none⟩ ∧ b < W.heap.size ∧ W.cell? ⟨b, off + j, none⟩ = some (.slice ra rn rc) ∧ (os[j].getD []).length = rn ∧ rn ≤ maxLen ∧ IntsAt W ra (os[j].getD []) ∧ (ra = none ↔ os[j] = none)
theorem OptsAt.rows {W : World} {a : Option Addr} {os : List (Option (List Int))} (h : OptsAt W a os) : RowsAt W a (os.map (·.getD [])) := by
  intro j hj
  rw [List.length_map] at hj
  obtain ⟨b, off, ra, rn, rc, e, hb, hc, h1, h2, h3, _⟩ := h j hj
  exact ⟨b, off, ra, rn, rc, e, hb, hc, by rw [List.getElem_map]; exact h1, h2, by rw [List.getElem_map]; exact h3⟩
theorem OptsAt.below {w w' : World} {a : Option Addr} {l : List (Option (List Int))} (h : OptsAt w a l) (hb : Below w.heap.size w w') : OptsAt w' a l := by
  intro j hj
  obtain ⟨b, off, ra, n, cap, e, hlt, h0, hn, hm, hi, hnn⟩ := h j hj
  exact ⟨b, off, ra, n, cap, e, Nat.lt_of_lt_of_le hlt hb.size, (hb.cell (p := ⟨b, _, none⟩) hlt).trans h0, hn, hm, hi.below hb, hnn⟩
theorem PicsO.reads {W : World} {base : Nat} {S : Nat → Prop} {v : Value} {T : List (Option (List Int))} (h : PicsO W base S v T) : ∃ a cap, v = .slice a T.length cap ∧ T.length ≤ maxLen ∧ OptsAt W a T := by
  obtain ⟨xs, ho, hg, he⟩ := h
  rcases ho.2 with ⟨rfl, h0⟩ | ⟨g, cap, cur, rfl, hbg, hgg, hnc, hcm, hsz, htk⟩
  · exact ⟨none, 0, by rw [h0], by rw [h0]; decide, fun j hj => by omega⟩
  · refine ⟨_, cap, rfl, by omega, fun j hj => ?_⟩
    obtain ⟨u, h2, h3⟩ := he j hj
    have hc : ∀ i, i < T.length → W.cell? ⟨g, i, none⟩ = xs[i]? := fun i hi =>
      World.ownsRow.cellAt (w := W) (base := base) (e := 33) (size := 1) (g := g) (n := T.length) (cap := cap) (xs := xs) ⟨ho.1, .inr ⟨g, cap, cur, rfl, hbg, hgg, hnc, hcm, hsz, htk⟩⟩ i (by omega)
    obtain ⟨ra, rc, rfl, k1, k2, k3⟩ := h3.slice
    exact ⟨g, 0, ra, _, rc, rfl, (Array.getElem?_eq_some_iff.1 hgg).1, by rw [Nat.zero_add, hc _ hj]; exact h2, rfl, k1, k2, k3⟩

def decL (M : Mask) (k : Int) (F : List Frm) (t : Nat) : List (Option (List Int)) := (List.range t).map (fun j => decAt M k F (j + 1))
theorem decL_len (M : Mask) (k : Int) (F : List Frm) (t : Nat) : (decL M k F t).length = t := by simp [decL]
theorem decL_succ (M : Mask) (k : Int) (F : List Frm) (t : Nat) : decL M k F (t + 1) = decL M k F t ++ [decAt M k F (t + 1)] := by simp [decL, List.range_succ]
theorem decL_get (M : Mask) (k : Int) (F : List Frm) {t j : Nat} (h : j < (decL M k F t).length) : (decL M k F t)[j] = decAt M k F (j + 1) := by simp [decL]
set_option maxRecDepth 100000 in
set_option maxHeartbeats 2000000 in
theorem r8decode_c (w : World) (a a2 : Option Addr) (n cap n2 cap2 : Nat) (M : Mask) (F : List Frm) (k : Int) (hn : M.length = n) (hn2 : F.length = n2) (hm : n ≤ maxLen) (H : RowsAt w a M) (H2 : FramesAt w a2 F) (hV : validB M F = true) :
    Calls Tryz.prog 42 #[.slice a n cap, .slice a2 n2 cap2, .int .i64 k] w fun e w' => ∃ v, e = .returned v ∧ PicsO w' w.heap.size (fun _ => True) v (decL M k F n2) ∧ Below w.heap.size w w' := by
  obtain ⟨hM, h1, h60, _⟩ := validB_ok hV
  have hfv : ∀ f ∈ F, frB M f = true := by
    unfold validB at hV
    simp only [Bool.and_eq_true, List.all_eq_true] at hV
    exact hV.2
  have HH2 := hid H2
  have HN2 := hid hn2
  have HNX := hid (fun (X : World) (hX : Below w.heap.size w X) (kf : Bool) (ra : Option Addr) (rn rc : Nat) (l : List Int) (o : Option (List Int)) (nv : Value) (S : Nat → Prop) (hr : l.length = rn) (hrm : rn ≤ maxLen) (hri : IntsAt X ra l) (hf : frB M (kf, l) = true) (ho : OptV X w.heap.size S o nv) (hoo : okO M o) => r8next_c X a ra n cap rn rc M kf l o nv w.heap.size S k hn hM hr hrm (H.below hX) hri hf ho hoo)
  have HOK := hid (fun j => decAt_ok (k := k) hfv j)
  have HFV := hid hfv
  have HDS := hid (show ∀ j, (hj : j < F.length) → decAt M k F (j + 1) = nextF M k (decAt M k F j) F[j] from fun j hj => by
    show nextF M k (decAt M k F j) (F[j]?.getD (false, [])) = _
    rw [List.getElem?_eq_getElem hj, Option.getD_some])
  have hn60 : n2 ≤ 60 := by omega
  clear hn hn2 hm H H2 hV hM h1 h60 hfv
  go_enter Tryz.func42, Tryz.ntmps42
  go_wp2
  go_loopw [7, 8, 13] (fun v nv i wr => ∃ t : Nat, t ≤ n2 ∧ i = .int .i64 t ∧ PicsO wr w.heap.size (fun _ => True) v (decL M k F t) ∧ OptV wr w.heap.size (fun _ => True) (decAt M k F t) nv ∧ Below w.heap.size w wr) (fun _ _ i _ => n2 - (intOf i).toNat)
  case atStart => exact ⟨0, Nat.zero_le _, rfl, PicsO.nil _ _ _, .inl ⟨rfl, rfl⟩, Below.refl _ _⟩
  case round =>
    obtain ⟨t, ht, rfl, ho, hnv, hbk⟩ := hrel
    by_cases hlt : t < n2
    · have htF : t < F.length := by rw [HN2.out]; exact hlt
      obtain ⟨b, off, ra, rn, rc, rfl, hbs, hc0, hc1, hrn, hrm, hri⟩ := (HH2.out.below hbk) t htF
      have hfr := HFV.out _ (List.getElem_mem htF)
      have hds := HDS.out t htF
      obtain ⟨⟨kf, l⟩, hl⟩ : ∃ f, f = F[t]'htF := ⟨_, rfl⟩
      rw [← hl] at hc0 hrn hri hfr hds
      simp only [] at hc0 hrn hri
      have hti : (t : Int) < (n2 : Int) := by omega
      have hti0 : (0 : Int) ≤ (t : Int) := by omega
      have hba : ∀ o : Obj, Below wr.heap.size wr (wr.alloc o) := fun o => (Below.refl _ _).alloc (Nat.le_refl _) _
      have HX := hid (fun (o : Obj) => HNX.out (wr.alloc o) (chain hbk (hba o)) kf ra rn rc l (decAt M k F t) _ (fun _ => True) hrn hrm (hri.below (hba o)) hfr (hnv.below (hba o)) (HOK.out t))
      have HDS2 := hid hds
      have HBA := hid hba
      have HBK := hid hbk
      have HO := hid ho
      clear hds hl hfr hri hrn hba hbk ho hnv
      go_wp2_with (go_at_call 64; refine (HX.out _).mono ?_; rintro e w1 ⟨v1, rfl, ho1, hb1⟩; refine Stop.of ?_)
      refine Stop.go ?_
      have hb1' := chain (HBA.out _) hb1
      have hB1 := chain HBK.out hb1'
      have hbb := HBA.out
      obtain ⟨va, vc, rfl⟩ := HO.out.slice
      have hO1 := HO.out.below hb1'
      rw [decL_len]
      have hov : OptV w1 w.heap.size (fun _ => True) (decAt M k F (t + 1)) v1 := by
        rw [HDS2.out]
        rcases ho1 with h | ⟨x, b, c, h1, h2, h3, h4⟩
        · exact .inl h
        · exact .inr ⟨x, b, c, h1, h2, by have := HBK.out.size; simp at h3; omega, h4⟩
      obtain ⟨xa, xn, xc, rfl⟩ : ∃ a n c, v1 = .slice a n c := by obtain ⟨a, c, e, _⟩ := hov.slice; exact ⟨a, _, c, e⟩
      obtain ⟨vs, hvo, hvg, hve⟩ := hO1
      rw [decL_len] at hvo
      have HVO := hid hvo
      have HVG := hid hvg
      have HVE := hid hve
      have HOV := hid hov
      have HB1 := hid hB1
      have M1 := hid (show t + 1 ≤ maxLen by unfold maxLen; omega)
      have M2 := hid (show (t + 1) * 24 ≤ 140737488355328 by omega)
      have M3 := hid (Nat.le_trans hB1.size (le_alloc w1 (.cells #[.slice xa xn xc] 33)))
      have M4 := hid (hov.oneCell)
      clear hvo hvg hve hov hB1 hb1 hb1' ho1 hbb
      go_wp2_with (at_builtin; refine Stop.of ?_)
      refine Stop.go ?_
      (refine wpList_app _ rfl (.tmp 22) (.tmp 24) 22 rfl w.heap.size 33 (.slice none 0 0) 1 24 Tryz.underlying22 info_ints rfl Nat.one_pos (.slice va t vc) t vs rfl (HVO.out.alloc _) (some ⟨w1.heap.size, 0, none⟩) 1 1 [.slice xa xn xc] rfl rfl no_none (one_news w1 _ _) (by intro u hu; rw [List.mem_singleton.1 hu]; exact M4.out) M1.out M2.out M3.out ?_)
      intro a3 c3 w3 own3 g3
      have hla : Below w1.heap.size w1 (w1.alloc (.cells #[.slice xa xn xc] 33)) := (Below.refl _ _).alloc (Nat.le_refl _) _
      have hP3 := PicsO.snoc (l := decAt M k F (t + 1)) (by rw [decL_len]; exact HVO.out) HVE.out HOV.out hla g3 (by rw [decL_len]; exact own3) (fun _ _ => trivial)
      have hB3 : Below w.heap.size w w3 := (HB1.out.alloc HB1.out.size _).grown g3 M3.out (fun k hk => (HVO.out.lt k hk).1)
      have hO3 : OptV w3 w.heap.size (fun _ => True) (decAt M k F (t + 1)) (.slice xa xn xc) := HOV.out.grown HVO.out hla g3
      have HB3 := hid hB3
      have HO3 := hid hO3
      have HP3 := hid hP3
      clear hla hP3 hB3 hO3 own3 g3
      go_wp2
      refine ⟨⟨t + 1, by omega, by go_num, ?_, HO3.out, HB3.out⟩, by simp [intOf]; omega⟩
      rw [decL_succ]
      exact HP3.out
    · obtain rfl : n2 = t := by omega
      go_wp2
      go_ret
      exact ⟨_, rfl, ho, hbk⟩
end Go.Proofs.YtkmjeegnijohmaaGreat

namespace Go.Proofs.YtkmjeegnijohmaaGreat
open Go.RowKit
set_option linter.unusedVariables false

theorem picB_pos {M : Mask} {x : List Int} (hM : okM M = true) (h : picB M x = true) : 0 < x.length := by
  obtain ⟨_, _, _, hc1, _⟩ := okM_ok hM
  unfold picB at h
  simp only [Bool.and_eq_true, decide_eq_true_eq] at h
  omega
theorem dec_right {M : Mask} {p : List (List Int)} (hP : picsB M p = true) (E : Nat) (k : Int) : decide ((decL M k (encF M p E) p.length).map (·.getD []) = p) = rightF M p E k := by
  obtain ⟨hM, _, _, hpp⟩ := picsB_ok hP
  have hpos : ∀ j (hj : j < p.length), 0 < (p[j]).length := fun j hj => picB_pos hM (hpp _ (List.getElem_mem hj))
  unfold rightF
  rw [Bool.eq_iff_iff, decide_eq_true_eq, List.all_eq_true]
  constructor
  · intro h j hj
    have hj' := List.mem_range.1 hj
    have h1 : ((decL M k (encF M p E) p.length).map (·.getD []))[j]? = p[j]? := by rw [h]
    rw [List.getElem?_map, List.getElem?_eq_getElem (by rw [decL_len]; exact hj'), decL_get, List.getElem?_eq_getElem hj'] at h1
    have h2 : (decAt M k (encF M p E) (j + 1)).getD [] = p[j] := Option.some.inj h1
    have h3 := hpos j hj'
    rw [List.getElem?_eq_getElem hj', Option.getD_some]
    cases hd : decAt M k (encF M p E) (j + 1) with
    | none => rw [hd] at h2; rw [← h2] at h3; simp at h3
    | some v => rw [hd] at h2; simp at h2; simp [h2]
  · intro h
    refine List.ext_getElem (by rw [List.length_map, decL_len]) fun j h1 h2 => ?_
    have := h j (List.mem_range.2 h2)
    rw [List.getElem?_eq_getElem h2, Option.getD_some, decide_eq_true_eq] at this
    rw [List.getElem_map, decL_get, this]
    rfl
theorem right_one {M : Mask} {p : List (List Int)} (hP : picsB M p = true) (k : Int) : rightF M p 1 k = true := by
  obtain ⟨hM, _, _, hpp⟩ := picsB_ok hP
  unfold rightF
  rw [List.all_eq_true]
  intro j hj
  have hj' := List.mem_range.1 hj
  rw [decide_eq_true_eq]
  show nextF M k (decAt M k (encF M p 1) j) ((encF M p 1)[j]?.getD (false, [])) = _
  have e : (encF M p 1)[j]?.getD (false, []) = (true, p[j]?.getD []) := by
    unfold encF; rw [List.getElem?_map, List.getElem?_range hj']
    simp [encAt, Nat.mod_one]
  have hp := picB_pos hM (hpp _ (List.getElem_mem hj'))
  rw [e, List.getElem?_eq_getElem hj', Option.getD_some]
  unfold nextF
  rw [if_neg (by simp; intro h; rw [h] at hp; simp at hp), if_pos rfl]
def sparsTo (M : Mask) (p : List (List Int)) (k : Int) : Nat → Nat
  | 0 => 0
  | E + 1 => if rightF M p (E + 1) k = true then E + 1 else sparsTo M p k E
def sparsE (M : Mask) (p : List (List Int)) (k : Int) : Int := if picsB M p = true then (if inB k 0 (colsM M) = true then 0 else 7) else 1
def sparsV (M : Mask) (p : List (List Int)) (k : Int) : Int := if sparsE M p k = 0 then (sparsTo M p k p.length : Int) else 0
theorem spars_le (M : Mask) (p : List (List Int)) (k : Int) : ∀ E, sparsTo M p k E ≤ E
  | 0 => Nat.le_refl _
  | E + 1 => by
    have := spars_le M p k E
    unfold sparsTo; split <;> omega
theorem spars_pos {M : Mask} {p : List (List Int)} (hP : picsB M p = true) (k : Int) : ∀ E, 1 ≤ E → 1 ≤ sparsTo M p k E ∧ rightF M p (sparsTo M p k E) k = true
  | 0, h => by omega
  | E + 1, _ => by
    unfold sparsTo
    split
    · rename_i h; exact ⟨by omega, h⟩
    · rename_i h
      rcases Nat.eq_zero_or_pos E with e | e
      · subst e; exact absurd (right_one hP k) h
      · exact spars_pos hP k E e
theorem spars_max {M : Mask} {p : List (List Int)} {k : Int} : ∀ {E e : Nat}, 1 ≤ e → e ≤ E → rightF M p e k = true → e ≤ sparsTo M p k E
  | 0, e, h1, h2, _ => by omega
  | E + 1, e, h1, h2, h3 => by
    unfold sparsTo
    split
    · exact h2
    · rename_i h
      have : e ≠ E + 1 := fun he => by rw [he] at h3; exact h h3
      exact spars_max h1 (by omega) h3

theorem r8sent_c (w : World) (a a2 : Option Addr) (n cap n2 cap2 : Nat) (M : Mask) (p : List (List Int)) (E : Nat) (k : Int) (hn : M.length = n) (hn2 : p.length = n2) (hm : n ≤ maxLen) (hm2 : n2 ≤ maxLen) (H : RowsAt w a M) (H2 : RowsAt w a2 p) (hP : picsB M p = true) (hE : 1 ≤ E) (hE2 : E ≤ 60) :
    Calls Tryz.prog 36 #[.slice a n cap, .slice a2 n2 cap2, .int .i64 E, .int .i64 k] w fun e w' => e = .returned (.bool (rightF M p E k)) ∧ Below w.heap.size w w' := by
  have HEN := hid (r8encode_c w a a2 n cap n2 cap2 M p E hn hn2 hm H H2 hP hE hE2)
  have HD := hid (fun (X : World) (hX : Below w.heap.size w X) (fa : Option Addr) (fc : Nat) (hf : FramesAt X fa (encF M p E)) => r8decode_c X a fa n cap n2 fc M (encF M p E) k hn (by rw [encF_len, hn2]) hm (H.below hX) hf (encF_valid hP E))
  have HSL := hid (fun (X : World) (hX : Below w.heap.size w X) (da : Option Addr) (dc : Nat) (hd : RowsAt X da ((decL M k (encF M p E) n2).map (·.getD []))) => s8Lists_c X da a2 n2 dc n2 cap2 _ p (by rw [List.length_map, decL_len]) hn2 hm2 hm2 hd (H2.below hX))
  have HR := hid (show decide ((decL M k (encF M p E) n2).map (·.getD []) = p) = rightF M p E k by rw [← hn2]; exact dec_right hP E k)
  have HFL := hid (show (encF M p E).length = n2 by rw [encF_len, hn2])
  obtain ⟨F, hF⟩ : ∃ F, F = encF M p E := ⟨_, rfl⟩
  rw [← hF] at HEN HD HSL HR HFL
  have HDL := hid (decL_len M k F n2)
  obtain ⟨D, hD⟩ : ∃ D, D = decL M k F n2 := ⟨_, rfl⟩
  rw [← hD] at HD HSL HR HDL
  rw [HR.out] at HSL
  obtain ⟨B, hB⟩ : ∃ B, B = rightF M p E k := ⟨_, rfl⟩
  rw [← hB] at HSL ⊢
  clear hn hn2 hm hm2 H H2 hP hE hE2 hF hD hB HR
  go_enter Tryz.func36, Tryz.ntmps36
  go_wp2_with (go_at_call 59; refine HEN.out.mono ?_; rintro e w1 ⟨v1, rfl, ho1, hb1⟩; refine Stop.of ?_)
  refine Stop.go ?_
  obtain ⟨fa, fc, rfl, _, hf⟩ := ho1.reads
  rw [HFL.out]
  have HDD := hid (HD.out w1 hb1 fa fc hf)
  have HB1 := hid hb1
  clear ho1 hf hb1 HD HEN
  go_wp2_with (go_at_call 42; refine HDD.out.mono ?_; rintro e w2 ⟨v2, rfl, ho2, hb2⟩; refine Stop.of ?_)
  refine Stop.go ?_
  obtain ⟨da, dc, rfl, _, hd⟩ := ho2.reads
  rw [HDL.out]
  have hb12 := chain HB1.out hb2
  have HSS := hid (HSL.out w2 hb12 da dc hd.rows)
  have HB2 := hid hb12
  clear ho2 hd hb2 hb12 HDD HSL HB1
  go_wp2_with (go_at_call 20; refine HSS.out.mono ?_; rintro e w3 ⟨rfl, k3, rfl⟩; refine Stop.of ?_)
  refine Stop.go ?_
  go_wp2
  go_ret
  exact ⟨rfl, below_drewN HB2.out _⟩

set_option maxHeartbeats 800000 in
theorem r8Sent_c (w : World) (a a2 : Option Addr) (n cap n2 cap2 : Nat) (M : Mask) (p : List (List Int)) (every trust : Int) (hn : M.length = n) (hm : n ≤ maxLen) (H : RowsAt w a M) (hn2 : p.length = n2) (hm2 : n2 ≤ maxLen) (H2 : RowsAt w a2 p) :
    Calls Tryz.prog 10 #[.slice a n cap, .slice a2 n2 cap2, .int .i64 every, .int .i64 trust] w fun e w' => e = .returned (.tuple #[.bool (sentB M p every trust), .int .i64 (sentE M p every trust)]) ∧ Below w.heap.size w w' := by
  have HV := hid (r8validPics_c w a n cap M hn hm H a2 n2 cap2 p hn2 hm2 H2)
  cases hP : picsB M p
  · have he : sentE M p every trust = 1 := by unfold sentE; rw [hP]; rfl
    have hb : sentB M p every trust = false := by unfold sentB; rw [he]; rfl
    rw [hP] at HV
    rw [he, hb]
    clear hn H hn2 H2 hP he hb
    go_enter Tryz.func10, Tryz.ntmps10
    go_wp2_with (go_at_call 34; refine HV.out.mono ?_; rintro e w1 ⟨rfl, hb1⟩)
    go_ret2
    exact ⟨rfl, hb1⟩
  · obtain ⟨hM, hp1, hp60, hpp⟩ := picsB_ok hP
    obtain ⟨_, h1, h6, hc1, hc10⟩ := okM_ok hM
    obtain ⟨b, off, ra, rc, rfl, hb, hc⟩ := rows_head H (by omega)
    have i0 : (0 : Int) < (n : Int) := by omega
    have HC0 := hid (show ∀ X : World, Below w.heap.size w X → X.cell? ⟨b, off, none⟩ = some (.slice ra (colsM M) rc) from fun X hX => (hX.cell (p := ⟨b, off, none⟩) hb).trans hc)
    have HW := hid (fun X => r8in_c every 1 60 X)
    have HT := hid (fun X => r8in_c trust 0 (colsM M) X)
    have HE := hid (show sentE M p every trust = if inB every 1 60 = true ∧ inB trust 0 (colsM M) = true then 0 else 7 by unfold sentE; rw [hP]; rfl)
    rw [hP] at HV
    cases hE : inB every 1 60
    · have he : sentE M p every trust = 7 := by rw [HE.out, hE]; rfl
      have hb : sentB M p every trust = false := by unfold sentB; rw [he]; rfl
      rw [hE] at HW
      rw [he, hb]
      clear hn H hn2 H2 hP he hb hE hc hpp hM
      go_enter Tryz.func10, Tryz.ntmps10
      go_wp2_with first
        | (go_at_call 34; refine HV.out.mono ?_; rintro e w1 ⟨rfl, hb1⟩)
        | (go_at_call 35; refine (HW.out _).mono ?_; rintro e w2 ⟨rfl, rfl⟩)
      go_ret2
      exact ⟨rfl, hb1⟩
    · rw [hE] at HW
      cases hT : inB trust 0 (colsM M)
      · have he : sentE M p every trust = 7 := by rw [HE.out, hE, hT]; rfl
        have hb : sentB M p every trust = false := by unfold sentB; rw [he]; rfl
        rw [he, hb]
        obtain ⟨W, hW⟩ : ∃ W, W = colsM M := ⟨_, rfl⟩
        rw [← hW] at hT HC0
        clear hn H hn2 H2 hP he hb hc hpp hM hW HT HW
        go_enter Tryz.func10, Tryz.ntmps10
        go_wp2_with first
          | (go_at_call 34; refine HV.out.mono ?_; rintro e w1 ⟨rfl, hb1⟩; have hc1' := HC0.out w1 hb1)
          | (go_at_call 35; refine (r8in_c _ _ _ _).mono ?_; rintro e w2 ⟨rfl, rfl⟩)
        go_ret2
        exact ⟨rfl, hb1⟩
      · have he : sentE M p every trust = 0 := by rw [HE.out, hE, hT]; rfl
        have hb : sentB M p every trust = rightF M p every.toNat trust := by unfold sentB; rw [he]; rfl
        have hE' : 1 ≤ every ∧ every ≤ 60 := by unfold inB at hE; simpa using hE
        obtain ⟨E, rfl⟩ : ∃ E : Nat, every = (E : Int) := ⟨every.toNat, by omega⟩
        have HR := hid (fun (X : World) (hX : Below w.heap.size w X) => r8sent_c X (some ⟨b, off, none⟩) a2 n cap n2 cap2 M p E trust hn hn2 hm hm2 (H.below hX) (H2.below hX) hP (by omega) (by omega))
        rw [he, hb, Int.toNat_natCast]
        obtain ⟨W, hW⟩ : ∃ W, W = colsM M := ⟨_, rfl⟩
        rw [← hW] at hT HC0
        clear hn H hn2 H2 hP he hb hc hpp hM hW hE' HT HW
        go_enter Tryz.func10, Tryz.ntmps10
        go_wp2_with first
          | (go_at_call 34; refine HV.out.mono ?_; rintro e w1 ⟨rfl, hb1⟩; have hc1' := HC0.out w1 hb1)
          | (go_at_call 35; refine (r8in_c _ _ _ _).mono ?_; rintro e w2 ⟨rfl, rfl⟩)
          | (go_at_call 36; refine (HR.out _ hb1).mono ?_; rintro e w3 ⟨rfl, hb3⟩)
        go_ret2
        exact ⟨rfl, chain hb1 hb3⟩

end Go.Proofs.YtkmjeegnijohmaaGreat

namespace Go.Proofs.YtkmjeegnijohmaaGreat
open Go.RowKit
set_option linter.unusedVariables false

def circ0 (M : List (List Int)) (n : Nat) (S : List Int) : Option (List Int) := if S.length = 0 ∨ M.length + 1 < S.length then none else circ1R M n S
theorem kerSR_eq {M : List (List Int)} {n : Nat} (h : MaskOk M n) (S : List Int) : kerSR M S = kerSP M S := by
  have hc := h.cols S
  exact (kernel_same hc.wid hc.le6 (fun r hr c _ => hc.one r hr c)).symm
theorem circ0_skip {M : List (List Int)} {n : Nat} {S : List Int} (h : S.length = 0 ∨ M.length + 1 < S.length) : circ0 M n S = none := if_pos h
theorem circ0_no {M : List (List Int)} {n : Nat} {S : List Int} (hM : MaskOk M n) (h : (kerSP M S).length ≠ 1) : circ0 M n S = none := by
  unfold circ0
  split
  · rfl
  · unfold circ1R
    rw [kerSR_eq hM]
    match kerSP M S, h with
    | [], _ => rfl
    | [l], h => simp at h
    | _ :: _ :: _, _ => rfl
theorem circ0_zero {M : List (List Int)} {n : Nat} {S l : List Int} (hM : MaskOk M n) (h : kerSP M S = [l]) (h0 : l.contains 0 = true) : circ0 M n S = none := by
  unfold circ0
  split
  · rfl
  · unfold circ1R; rw [kerSR_eq hM, h]; simp only [h0]; rfl
theorem circ0_yes {M : List (List Int)} {n : Nat} {S l : List Int} (hM : MaskOk M n) (hs : ¬ (S.length = 0 ∨ M.length + 1 < S.length)) (h : kerSP M S = [l]) (h0 : l.contains 0 = false) :
    circ0 M n S = some (if vec (spreadF n S l S.length) (S[0]?.getD 0).toNat < 0 then negF (spreadF n S l S.length) else spreadF n S l S.length) := by
  unfold circ0
  rw [if_neg hs]
  unfold circ1R; rw [kerSR_eq hM, h]; simp only [h0]; rfl
def circK (M : List (List Int)) (n k : Nat) : List (List Int) := ((allS n).take k).filterMap (circ0 M n)
theorem circK_succ {M : List (List Int)} {n k : Nat} (hk : k < (allS n).length) : circK M n (k + 1) = circK M n k ++ (circ0 M n (allS n)[k]).toList := by
  unfold circK
  rw [List.take_succ_eq_append_getElem hk, filterMap_snoc]
theorem circK_le (M : List (List Int)) (n k : Nat) : (circK M n k).length ≤ (allS n).length := by
  unfold circK
  exact Nat.le_trans (List.length_filterMap_le _ _) (by rw [List.length_take]; exact Nat.min_le_right _ _)
theorem circK_all {M : List (List Int)} {n k : Nat} (hM : MaskOk M n) (h : (allS n).length ≤ k) : circK M n k = circP M n := by
  unfold circK
  rw [List.take_of_length_le h, circ_same hM]
  rfl
theorem zero_take {l : List Int} {t : Nat} (ht : t < l.length) : (!(l.take (t + 1)).contains 0) = ((!(l.take t).contains 0) && decide (l[t]?.getD 0 ≠ 0)) := by
  rw [List.take_succ_eq_append_getElem ht, List.getElem?_eq_getElem ht, Option.getD_some]
  have e : ∀ (l : List Int) (y : Int), (l ++ [y]).contains 0 = (l.contains 0 || decide (y = 0)) := by
    intro l y
    rw [Bool.eq_iff_iff]
    simp only [List.contains_iff_mem, List.mem_append, List.mem_singleton, Bool.or_eq_true, decide_eq_true_eq]
    constructor <;> rintro (h | h) <;> first | exact .inl h | exact .inr h.symm
  rw [e, Bool.not_or]
  congr 1
  by_cases h : l[t] = 0 <;> simp [h]
theorem sp_made (w : World) (k : Nat) : SpRow (w.alloc (.cells (madeCells #[.int .i64 0] k) 3)) w.heap.size (List.replicate k 0) := by
  have e : madeCells #[Value.int .i64 0] k = ((List.replicate k (0 : Int)).map (Value.int .i64)).toArray := by
    apply Array.toList_inj.1
    rw [toList_madeCells_one]; simp
  exact ⟨[], by rw [World.alloc_heap_new, e, List.append_nil]⟩

set_option maxRecDepth 100000 in
set_option maxHeartbeats 8000000 in
theorem r3Circuits_c (w : World) (a : Option Addr) (n cap : Nat) (M : Mask) (hn : M.length = n) (hm : n ≤ maxLen) (H : RowsAt w a M) :
    Calls Tryz.prog 82 #[.slice a n cap] w fun e w' => ∃ v base, w.heap.size ≤ base ∧ Below w.heap.size w w' ∧
      ((okM M = false ∧ e = .returned (.tuple #[.slice none 0 0, .int .i64 1])) ∨ (okM M = true ∧ e = .returned (.tuple #[v, .int .i64 0]) ∧ TabS w' base v (circP M (colsM M)))) := by
  have HV := hid (r2Valid_c w a n cap M hn hm H)
  cases hok : okM M
  · rw [hok] at HV
    clear hn H
    go_enter Tryz.func82, Tryz.ntmps82
    go_wp2_with (go_at_call 57; refine HV.out.mono ?_; rintro e w1 ⟨rfl, rfl⟩)
    go_ret2
    exact ⟨.slice none 0 0, w.heap.size, Nat.le_refl _, Below.refl _ _, .inl ⟨by first | trivial | rfl, rfl⟩⟩
  · rw [hok] at HV
    obtain ⟨hM, h1, h6, hc1, hc10⟩ := okM_ok hok
    obtain ⟨b, off, ra, rc, rfl, hb, hc⟩ := rows_head H (by omega)
    have HMN := hid hn
    obtain ⟨W, hW⟩ : ∃ W, W = colsM M := ⟨_, rfl⟩
    rw [← hW] at hc hc1 hc10 hM ⊢
    have HALL := hid (fun k (h : (allS W).length ≤ k) => circK_all hM h)
    have HCC := hid (fun (X : World) (hX : Below w.heap.size w X) => show X.cell? ⟨b, off, none⟩ = some (.slice ra W rc) from (hX.cell (p := ⟨b, off, none⟩) hb).trans hc)
    have HCOL := hid (fun (X : World) (hX : Below w.heap.size w X) (x : List Int) (a2 : Option Addr) (k2 cap2 : Nat) (hk : x.length = k2) (hk2 : k2 ≤ 1000) (hx : IntsAt X a2 x) (hS : ∀ j ∈ x, 0 ≤ j ∧ j < (W : Int)) =>
      r3columns_c X (some ⟨b, off, none⟩) n cap M hn (by omega) (H.below hX) a2 k2 cap2 x hk hk2 hx (fun r hr j hj => by rw [hM.wid r hr]; exact hS j hj))
    have HKER := hid (fun (X : World) (x : List Int) (a3 : Option Addr) (c3 : Nat) (h0 : 1 ≤ x.length) (h10 : x.length ≤ 1000) (hR : RowsAt X a3 (colsF M x)) =>
      r3kernel_c X a3 n c3 (colsF M x) (by rw [colsF_len]; exact hn) (by omega) x.length h0 h10 (hM.cols x) hR)
    have HKF := hid (fun (x : List Int) (l : List Int) (hl : l ∈ kerSP M x) => kerSP_facts hM hl)
    have HSK := hid (fun (x : List Int) (h : x.length = 0 ∨ n + 1 < x.length) => circ0_skip (M := M) (n := W) (S := x) (by rw [hn]; exact h))
    have HNO := hid (fun (x : List Int) (h : (kerSP M x).length ≠ 1) => circ0_no (S := x) hM h)
    have HZE := hid (fun (x l : List Int) (h : kerSP M x = [l]) (h0 : l.contains 0 = true) => circ0_zero hM h h0)
    have HYE := hid (fun (x l : List Int) (hs : ¬ (x.length = 0 ∨ n + 1 < x.length)) (h : kerSP M x = [l]) (h0 : l.contains 0 = false) => circ0_yes hM (by rw [hn]; exact hs) h h0)
    have HSU := hid (fun (k : Nat) (hk : k < (allS W).length) => circK_succ (M := M) hk)
    have HLE := hid (fun (k : Nat) => circK_le M W k)
    have HAOK := hid (fun (x : List Int) (hx : x ∈ allS W) => allS_ok hx)
    have HA20 := hid (allS_le hc10)
    have hn6 : n ≤ 6 := by omega
    have hn1 : 1 ≤ n := by omega
    have hni : (0 : Int) < (n : Int) := by omega
    obtain ⟨A, hA⟩ : ∃ A, A = allS W := ⟨_, rfl⟩
    have HSETS := hid (fun (X : World) => r3sets_c X W hc10)
    rw [← hA] at HALL HSU HLE HAOK HA20 HSETS
    obtain ⟨N, hN⟩ : ∃ N, N = A.length := ⟨_, rfl⟩
    rw [← hN] at HALL HLE HA20
    have HN := hid hN
    have hN20 := HA20.out
    have hcw := HCC.out w (Below.refl _ _)
    clear hn H hok hc hM hW hA hN h1 h6 hb
    go_enter Tryz.func82, Tryz.ntmps82
    go_wp2_with (go_at_call 57; refine HV.out.mono ?_; rintro e w1 ⟨rfl, rfl⟩; refine Stop.of ?_)
    refine Stop.go ?_
    go_wp2_with (go_at_call 98; refine (HSETS.out w).mono ?_; rintro e w2 ⟨vS, rfl, hTS, hb2⟩; refine Stop.of ?_)
    refine Stop.go ?_
    obtain ⟨sa, sc, rfl⟩ : ∃ a c, vS = .slice a N c := by
      obtain ⟨_, ho1, _⟩ := hTS
      obtain ⟨a', c', e⟩ := ownsRow_slice ho1
      exact ⟨a', c', by rw [e, HN.out]⟩
    have hRS := hTS.rows HN.out.symm (fun r hr => by have := (HAOK.out r hr).1; unfold maxLen; omega)
    have HRS := hid hRS
    have HB2 := hid hb2
    clear hTS hRS hb2 HSETS HV
    go_wp2
    go_loopw [4, 21] (fun v i wr => ∃ k : Nat, k ≤ N ∧ i = .int .i64 k ∧ TabS wr w2.heap.size v (circK M W k) ∧ Below w2.heap.size w2 wr) (fun _ i _ => N - (intOf i).toNat)
    case atStart => exact ⟨0, Nat.zero_le _, rfl, TabS.nil _ _, Below.refl _ _⟩
    case round =>
      obtain ⟨k, hk, rfl, ho, hbk⟩ := hrel
      obtain ⟨wo, hwo⟩ : ∃ wo, wo = wr := ⟨_, rfl⟩
      subst hwo
      by_cases hlt : k < N
      · have hkA : k < A.length := by rw [← HN.out]; exact hlt
        obtain ⟨bs, os, xa, xn, xc, rfl, hbs, hq0, hxn, hxm, hxi⟩ := (HRS.out.below hbk) k hkA
        have hsu := HSU.out k hkA
        have haok := HAOK.out A[k] (List.getElem_mem _)
        obtain ⟨x, hx⟩ : ∃ x, x = A[k] := ⟨_, rfl⟩
        rw [← hx] at hsu haok hxn hxi
        obtain ⟨hxW, hxo⟩ := haok
        have hxr : ∀ j ∈ x, 0 ≤ j ∧ j < (W : Int) := fun j hj => hxo.2 j hj
        have hle := HLE.out k
        obtain ⟨T, hT⟩ : ∃ T, T = circK M W k := ⟨_, rfl⟩
        rw [← hT] at hsu hle ho
        obtain ⟨tl, htl⟩ : ∃ tl, tl = T.length := ⟨_, rfl⟩
        rw [← htl] at hle
        obtain ⟨va, vc, rfl⟩ : ∃ la lc, u4 = .slice la tl lc := by
          obtain ⟨_, ho1, _⟩ := ho
          obtain ⟨a', c', e⟩ := ownsRow_slice ho1
          exact ⟨a', c', by rw [e, htl]⟩
        have HSUX := hid hsu
        have HXI := hid hxi
        have HXN := hid hxn
        have HXR := hid hxr
        have HXO := hid hxo
        have HO := hid ho
        have HBK := hid hbk
        have HTL := hid htl
        have hxn10 : xn ≤ 10 := by omega
        have hcwo := HCC.out wo (chain HB2.out hbk)
        have hxp : ∀ (X : World), Below wo.heap.size wo X → circ0 M W x = none → TabS X w2.heap.size (.slice va tl vc) (circK M W (k + 1)) ∧ Below w2.heap.size w2 X := fun X hX e => by
          rw [HSUX.out, e]
          simp only [Option.toList_none, List.append_nil]
          exact ⟨HO.out.below hX, chain HBK.out hX⟩
        have HXP := hid hxp
        clear hx hkA hsu hxW hxo hxr hT htl ho hbk hxi hxm hxn hxp
        have hki : (k : Int) < (N : Int) := by omega
        by_cases hskip : xn = 0 ∨ n + 1 < xn
        · have hno := HSK.out x (by rw [HXN.out]; exact hskip)
          obtain ⟨q1, q2⟩ := HXP.out wo (Below.refl _ _) hno
          have Q1 := hid q1
          have Q2 := hid q2
          clear q1 q2 hno
          rcases hskip with rfl | hsk
          · go_wp2
            exact ⟨⟨k + 1, by omega, by go_num, Q1.out, Q2.out⟩, by simp [intOf]; omega⟩
          · have hx0 : ((xn : Int) == 0) = false := by simp; omega
            have hsk2 : (n : Int) + 1 < (xn : Int) := by omega
            go_wp2
            exact ⟨⟨k + 1, by omega, by go_num, Q1.out, Q2.out⟩, by simp [intOf]; omega⟩
        · have HSKIP := hid hskip
          have hx1 : 1 ≤ xn := by omega
          have hx0 : ((xn : Int) == 0) = false := by simp; omega
          have hsk2 : ¬ (n : Int) + 1 < (xn : Int) := by omega
          have HC1 := hid (HCOL.out wo (chain HB2.out HBK.out) x xa xn xc HXN.out (by omega) HXI.out HXR.out)
          clear hskip
          go_wp2_with (go_at_call 100; refine HC1.out.mono ?_; rintro e w3 ⟨v3, rfl, hT3, hb3⟩; refine Stop.of ?_)
          refine Stop.go ?_
          obtain ⟨ca, cc, rfl⟩ : ∃ a c, v3 = .slice a n c := by
            obtain ⟨_, ho1, _⟩ := hT3
            obtain ⟨a', c', e⟩ := ownsRow_slice ho1
            exact ⟨a', c', by rw [e, colsF_len]; exact congrArg (fun z => Value.slice a' z c') HMN.out⟩
          have hkeq : kerSP M x = kernP (RP (colsF M x) x.length) (JP (colsF M x) x.length) x.length := rfl
          have hR3 := hT3.rows (by rw [colsF_len]; exact HMN.out) (fun r hr => by rw [colsF_wid M x r hr, HXN.out]; unfold maxLen; omega)
          have HK1 := hid (HKER.out w3 x ca cc (by rw [HXN.out]; exact hx1) (by rw [HXN.out]; omega) hR3)
          rw [← hkeq] at HK1
          have HB3 := hid hb3
          clear hT3 hR3 hb3 hkeq HC1
          have hKF := HKF.out x
          have hNO := HNO.out x
          have hZE := HZE.out x
          have hYE := fun l => HYE.out x l (by rw [HXN.out]; exact HSKIP.out)
          obtain ⟨K, hK⟩ : ∃ K, K = kerSP M x := ⟨_, rfl⟩
          rw [← hK] at HK1 hKF hNO hZE hYE
          have HKFX := hid hKF
          have HNOX := hid hNO
          have HZEX := hid hZE
          have HYEX := hid hYE
          clear hK hKF hNO hZE hYE
          go_wp2_with (go_at_call 99; refine HK1.out.mono ?_; rintro e w4 ⟨v4, base4, rfl, hbs4, hT4, hb4⟩; refine Stop.of ?_)
          refine Stop.go ?_
          have HB4 := hid (chain HB3.out hb4)
          clear HK1 HB3 hb4 hbs4
          obtain ⟨kl, hkl⟩ : ∃ kl, kl = K.length := ⟨_, rfl⟩
          obtain ⟨ka, kc, rfl⟩ : ∃ a c, v4 = .slice a kl c := by
            obtain ⟨_, ho1, _⟩ := hT4
            obtain ⟨a', c', e⟩ := ownsRow_slice ho1
            exact ⟨a', c', by rw [e, hkl]⟩
          by_cases hk1 : kl = 1
          · subst hk1
            obtain ⟨l, rfl⟩ := List.length_eq_one_iff.1 hkl.symm
            obtain ⟨hll, hlb⟩ := HKFX.out l (by simp)
            rw [HXN.out] at hll
            have hR4 := hT4.rows rfl (fun r hr => by rw [List.mem_singleton.1 hr, hll]; unfold maxLen; omega)
            obtain ⟨kb, ko, la, ln, lc, rfl, hkb, hkc, hln, hlm, hli⟩ := hR4 0 (by simp)
            simp only [List.getElem_cons_zero, Nat.add_zero] at hkc hln hli
            obtain rfl : ln = xn := by omega
            have HLI := hid hli
            have HLL := hid hll
            have HLB := hid hlb
            have hcw4 := HCC.out w4 (chain HB2.out (chain HBK.out HB4.out))
            have HXI4 := hid (HXI.out.below HB4.out)
            clear hT4 hR4 hkl hll hlb hln hlm hli hcwo
            have hmk : ∀ w, (Instr.makeSlice 33 (.int .i64 (W : Int)) (.int .i64 (W : Int))).run Tryz.prog w = .ok (.slice (some ⟨w.heap.size, 0, none⟩) W W) (w.alloc (.cells (madeCells #[.int .i64 0] W) 3)) :=
              fun w => run_make_row' 33 3 (.int .i64 0) 8 Tryz.underlying33 li_int rfl .i64 .i64 W (by omega) (by omega) w
            obtain ⟨w7, hw7⟩ : ∃ w7, w7 = w4.alloc (.cells (madeCells #[.int .i64 0] W) 3) := ⟨_, rfl⟩
            have hr7 : SpRow w7 w4.heap.size (List.replicate W 0) := by rw [hw7]; exact sp_made w4 W
            have hb7 : Below w4.heap.size w4 w7 := by rw [hw7]; exact (Below.refl _ _).alloc (Nat.le_refl _) _
            have hs7 : w7.heap.size = w4.heap.size + 1 := by rw [hw7]; simp
            have HR7 := hid hr7
            have HB7 := hid hb7
            have HW7 := hid hw7
            clear hr7 hb7 hw7
            go_wp2
            rw [← HW7.out]
            clear hmk
            go_loopw [9, 50] (fun v i wr => ∃ t : Nat, t ≤ ln ∧ i = .int .i64 t ∧ v = .bool (!(l.take t).contains 0) ∧ SpRow wr w4.heap.size (spreadF W x l t) ∧ Keep (fun q => q ≠ w4.heap.size) w7 wr) (fun _ i _ => ln - (intOf i).toNat)
            case atStart => exact ⟨0, Nat.zero_le _, rfl, rfl, HR7.out, Keep.refl _ _⟩
            case round =>
              obtain ⟨t, ht, rfl, rfl, hr, hkp⟩ := hrel
              have hb47 : Below w4.heap.size w4 wr := hkp.below HB7.out (by omega) (fun q hq => by omega)
              have hlenF : (spreadF W x l t).length = W := spreadF_len _ _ _ _
              have hkcr : wr.cell? ⟨kb, ko, none⟩ = some (.slice la ln lc) := (hb47.cell (p := ⟨kb, ko, none⟩) hkb).trans hkc
              have hkne : kb ≠ w4.heap.size := by omega
              by_cases hlq : t < ln
              · have htx : t < x.length := by rw [HXN.out]; exact hlq
                have htl2 : t < l.length := by rw [HLL.out]; exact hlq
                obtain ⟨b7, o7, rfl, hb7, hc7⟩ := HXI4.out t htx
                obtain ⟨b8, o8, rfl, hb8, hc8⟩ := HLI.out t htl2
                have hc7r : wr.cell? ⟨b7, o7 + t, none⟩ = some (.int .i64 (x[t]?.getD 0)) := (hb47.cell (p := ⟨b7, o7 + t, none⟩) hb7).trans hc7
                have hc8r : wr.cell? ⟨b8, o8 + t, none⟩ = some (.int .i64 (l[t]?.getD 0)) := (hb47.cell (p := ⟨b8, o8 + t, none⟩) hb8).trans hc8
                have h8ne : b8 ≠ w4.heap.size := by omega
                have hpb := HXO.out.get htx
                have hsn := spreadF_succ W x l t
                have hzt := zero_take htl2
                have hxq : x[t]?.getD 0 = x[t] := by rw [List.getElem?_eq_getElem htx]; rfl
                rw [hxq] at hc7r hsn
                obtain ⟨p, hp⟩ : ∃ p : Nat, x[t] = (p : Int) := ⟨(x[t]).toNat, by omega⟩
                rw [hp] at hc7r hpb hsn
                rw [Int.toNat_natCast] at hsn
                obtain ⟨hp0, hpW⟩ := hpb
                obtain ⟨z, hz⟩ : ∃ z, z = l[t]?.getD 0 := ⟨_, rfl⟩
                rw [← hz] at hc8r hsn hzt
                have hpW' : p < W := by omega
                have hoc := hr.cell (j := p) (by rw [hlenF]; exact hpW')
                obtain ⟨y, hy⟩ : ∃ y, y = (spreadF W x l t)[p]?.getD 0 := ⟨_, rfl⟩
                rw [← hy] at hoc
                have hof := hr.frozen p
                have hlt3 := hr.lt
                have HSET := hid (hr.set p (by rw [hlenF]; exact hpW') z)
                rw [← hsn] at HSET
                have HKP := hid (hkp.trans (Keep.set wr w4.heap.size p (.int .i64 z)))
                have HZT := hid hzt
                have i1 : (0 : Int) ≤ (t : Int) := by omega
                have i2 : (t : Int) < (ln : Int) := by omega
                obtain ⟨fr, hfr⟩ : ∃ fr, fr = !(l.take t).contains 0 := ⟨_, rfl⟩
                rw [← hfr] at HZT ⊢
                clear hxq hp hz hy hsn hzt hfr htx htl2 hlenF hr hkp hb47 hc7 hc8 hb7 hb8
                cases fr
                · go_wp2
                  exact ⟨⟨t + 1, hlq, by go_num, by rw [HZT.out]; rfl, HSET.out, HKP.out⟩, by simp [intOf]; omega⟩
                · by_cases hz0 : z = 0
                  · subst hz0
                    go_wp2
                    exact ⟨⟨t + 1, hlq, by go_num, by rw [HZT.out]; rfl, HSET.out, HKP.out⟩, by simp [intOf]; omega⟩
                  · have hzb : (z != 0) = true := by simpa using hz0
                    have HZB := hid (show (true && decide (z ≠ 0)) = true by simpa using hz0)
                    clear hz0
                    go_wp2
                    exact ⟨⟨t + 1, hlq, by go_num, by rw [HZT.out, HZB.out], HSET.out, HKP.out⟩, by simp [intOf]; omega⟩
              · obtain rfl : ln = t := by omega
                have e : l.take ln = l := List.take_of_length_le (by rw [HLL.out]; exact Nat.le_refl _)
                rw [e]
                cases h0 : l.contains 0
                · have HSOME := hid (HYEX.out l rfl h0)
                  rw [show (!false) = true from rfl]
                  have hx0l : 0 < x.length := by rw [HXN.out]; exact hx1
                  obtain ⟨b7, o7, rfl, hb7, hc7⟩ := HXI4.out 0 hx0l
                  have hc7r : wr.cell? ⟨b7, o7, none⟩ = some (.int .i64 (x[0]?.getD 0)) := (hb47.cell (p := ⟨b7, o7 + 0, none⟩) hb7).trans hc7
                  have hpb := HXO.out.get hx0l
                  have hxq : x[0]?.getD 0 = x[0] := by rw [List.getElem?_eq_getElem hx0l]; rfl
                  have hso := HSOME.out
                  rw [hxq] at hc7r hso
                  obtain ⟨p, hp⟩ : ∃ p : Nat, x[0] = (p : Int) := ⟨(x[0]).toNat, by omega⟩
                  rw [hp] at hc7r hpb hso
                  rw [Int.toNat_natCast, HXN.out] at hso
                  obtain ⟨hp0, hpW⟩ := hpb
                  have hpW' : p < W := by omega
                  have hoc := hr.cell (j := p) (by rw [hlenF]; exact hpW')
                  have hov : (spreadF W x l ln)[p]?.getD 0 = vec (spreadF W x l ln) p := rfl
                  rw [hov] at hoc
                  have hsb : ∀ y ∈ spreadF W x l ln, -518400 ≤ y ∧ y ≤ 518400 := fun y hy => spread_all (P := fun z => -518400 ≤ z ∧ z ≤ 518400) (by decide) HLB.out ln y hy
                  obtain ⟨Sp, hSp⟩ : ∃ Sp, Sp = spreadF W x l ln := ⟨_, rfl⟩
                  rw [← hSp] at hoc hso hlenF hr hsb
                  have HSC := hid (r3scaled_c wr (some ⟨w4.heap.size, 0, none⟩) W W Sp hlenF (by omega) hr.ints (fun y hy => by have := hsb y hy; omega))
                  have hrs : RowS wr (.slice (some ⟨w4.heap.size, 0, none⟩) W W) Sp := .inl ⟨w4.heap.size, W, by rw [hlenF], hr⟩
                  obtain ⟨z, hz⟩ : ∃ z, z = vec Sp p := ⟨_, rfl⟩
                  rw [← hz] at hoc hso
                  obtain ⟨R, hR⟩ : ∃ R, R = (if z < 0 then negF Sp else Sp) := ⟨_, rfl⟩
                  rw [← hR] at hso
                  have hRl : R.length = W := by rw [hR]; split <;> simp [negF, hlenF]
                  have HR1 := hid (fun (h : z < 0) => show R = negF Sp by rw [hR, if_pos h])
                  have HR2 := hid (fun (h : ¬ z < 0) => show R = Sp by rw [hR, if_neg h])
                  have HSO := hid hso
                  have HRS2 := hid hrs
                  have HB47 := hid hb47
                  have HRL := hid hRl
                  have HNL := hid (show (negF Sp).length = W by unfold negF; rw [List.length_map]; exact hlenF)
                  have hpi : (p : Int) < (W : Int) := by omega
                  have hpi0 : (0 : Int) ≤ (p : Int) := by omega
                  have hl0 : (0 : Int) < (ln : Int) := by omega
                  clear e h0 HSOME hb7 hc7 hxq hso hp hsb hSp hrs hz hR hRl hlenF hr hkp hb47 hx0l hov hlq ht
                  obtain ⟨wz, hwz⟩ : ∃ wz, wz = wr := ⟨_, rfl⟩
                  subst hwz
                  go_upto_if 83 with fail
                  go_cut [8] from 22 to 90 (fun v wx => RowS wx v R ∧ Below wz.heap.size wz wx)
                  case first =>
                    by_cases hz0 : z < 0
                    · have HE := hid (HR1.out hz0)
                      go_wp2_with (go_at_call 101; refine HSC.out.mono ?_; rintro e w9 ⟨v9, rfl, ho9, hb9⟩)
                      go_meet
                      case rel =>
                        refine ⟨?_, hb9⟩
                        rw [HE.out]
                        exact rowS_own ho9 HNL.out
                    · have HE := hid (HR2.out hz0)
                      go_wp2
                      go_meet
                      case rel =>
                        refine ⟨?_, Below.refl _ _⟩
                        rw [HE.out]
                        exact HRS2.out
                  case rest =>
                    obtain ⟨hrow, hbc⟩ := hcut
                    obtain ⟨ua, uc, hu⟩ := hrow.slice
                    rw [HRL.out] at hu
                    subst hu
                    have hboc : Below wo.heap.size wo wc := chain (chain HB4.out HB47.out) hbc
                    have hb2a : Below wo.heap.size wo (wc.alloc (.cells #[.slice ua W uc] 33)) := hboc.alloc hboc.size _
                    obtain ⟨vs, hv1, hv2⟩ := HO.out.below hb2a
                    have hv1' := hv1
                    rw [← HTL.out] at hv1'
                    have M1 := hid (show tl + 1 ≤ maxLen by unfold maxLen; omega)
                    have M2 := hid (show (tl + 1) * 24 ≤ 140737488355328 by omega)
                    have M3 := hid (chain HBK.out hb2a).size
                    have HV1 := hid hv1
                    have HV1' := hid hv1'
                    have HV2 := hid hv2
                    have HRW := hid (hrow.below ((Below.refl _ wc).alloc (Nat.le_refl _) (.cells #[.slice ua W uc] 33)))
                    have HBF := hid (chain HBK.out hb2a)
                    clear hrow hbc hboc hb2a hv1 hv1' hv2
                    go_wp2_with (at_builtin; refine wpList_app _ rfl (.tmp 86) (.tmp 88) 22 rfl w2.heap.size 33 (.slice none 0 0) 1 24 Tryz.underlying22 li_ints rfl Nat.one_pos (.slice va tl vc) tl vs rfl HV1'.out (some ⟨wc.heap.size, 0, none⟩) 1 1 [.slice ua W uc] rfl rfl no_none (one_news wc _ _) (slice_oneCell _ _ _) M1.out M2.out M3.out ?_; refine Stop.of ?_)
                    refine Stop.go ?_
                    intro a5 c5 w5 own5 g5
                    have hsn5 : TabS w5 w2.heap.size (.slice a5 (tl + 1) c5) (T ++ [R]) := TabS.snoc HV1.out HV2.out (Below.refl _ _) HRW.out g5 (by rw [← HTL.out]; exact own5)
                    have hB5 : Below w2.heap.size w2 w5 := HBF.out.grown g5 M3.out fun q hq => (own_type HV1'.out hq).1
                    have hfin : circK M W (k + 1) = T ++ [R] := by rw [HSUX.out, HSO.out]; rfl
                    rw [← hfin] at hsn5
                    have HSN5 := hid hsn5
                    have HBN5 := hid hB5
                    clear hsn5 hB5 hfin own5 g5
                    go_wp2
                    exact ⟨⟨k + 1, by omega, by go_num, HSN5.out, HBN5.out⟩, by simp [intOf]; omega⟩
                · obtain ⟨q1, q2⟩ := HXP.out wr (chain HB4.out hb47) (HZEX.out l rfl h0)
                  have Q1 := hid q1
                  have Q2 := hid q2
                  rw [show (!true) = false from rfl]
                  clear q1 q2 h0 e hr hkp hb47 hlenF
                  go_wp2
                  exact ⟨⟨k + 1, by omega, by go_num, Q1.out, Q2.out⟩, by simp [intOf]; omega⟩
          · have hno := HNOX.out (by rw [← hkl]; exact hk1)
            obtain ⟨q1, q2⟩ := HXP.out w4 HB4.out hno
            have Q1 := hid q1
            have Q2 := hid q2
            have hkb : ((kl : Int) != 1) = true := ne_one hk1
            clear q1 q2 hno hT4 hkl
            go_wp2
            exact ⟨⟨k + 1, by omega, by go_num, Q1.out, Q2.out⟩, by simp [intOf]; omega⟩
      · obtain rfl : N = k := by omega
        have e := HALL.out N (Nat.le_refl _)
        rw [e] at ho
        have HO := hid ho
        have HB := hid (chain HB2.out hbk)
        clear e ho hbk
        go_wp2
        go_ret2
        exact ⟨_, w2.heap.size, HB2.out.size, HB.out, .inr ⟨by first | trivial | rfl, rfl, HO.out⟩⟩
end Go.Proofs.YtkmjeegnijohmaaGreat

/- Walks and plain laws for StreamLosesRow, part 9. -/
import Derived.WalkSpells
import Derived.Lib.AppendZeros
import Derived.Test.YtkmjeegnijohmaaGreatPkStreamLosesRow8
namespace Go.Proofs.YtkmjeegnijohmaaGreat
section
set_option linter.unusedVariables false

end

section
open Go.RowKit
set_option linter.unusedVariables false

def rdE (M : Mask) (y : List Int) : Int := if okM M = true then readE M y else 1
theorem rd_check (M : Mask) (y : List Int) : rdE M y = checkE M y [] := by
  unfold rdE checkE readE pixE namedE
  cases okM M <;> simp [ascB]
theorem r3Read_c (w : World) (a a2 : Option Addr) (n cap n2 cap2 : Nat) (M : Mask) (y : List Int) (hn : M.length = n) (hn2 : y.length = n2) (hm : n ≤ maxLen) (hm2 : n2 ≤ maxLen) (H : RowsAt w a M) (H2 : IntsAt w a2 y) :
    Calls Tryz.prog 119 #[.slice a n cap, .slice a2 n2 cap2] w fun e w' => e = .returned (.int .i64 (rdE M y)) ∧ w = w' := by
  have HV := hid (r2Valid_c w a n cap M hn hm H)
  have HR := hid (r3reading_c w a2 n cap n2 cap2 M y a hn hn2 hm2 H2)
  unfold rdE
  cases hok : okM M
  · rw [hok] at HV
    simp only [Bool.false_eq_true, if_false]
    clear hn hn2 H H2 hok HR
    go_enter Tryz.func119, Tryz.ntmps119
    go_wp2_with (go_at_call 57; refine HV.out.mono ?_; rintro e w1 ⟨rfl, rfl⟩)
    go_ret
    exact ⟨rfl, rfl⟩
  · rw [hok] at HV
    simp only [if_true]
    clear hn hn2 H H2 hok
    go_enter Tryz.func119, Tryz.ntmps119
    go_wp2_with (go_at_call 57; refine HV.out.mono ?_; rintro e w1 ⟨rfl, rfl⟩; refine Stop.of ?_)
    refine Stop.go ?_
    go_wp2_with (go_at_call 131; refine HR.out.mono ?_; rintro e w1 ⟨rfl, rfl⟩; refine Stop.of ?_)
    refine Stop.go ?_
    go_wp2
    go_ret
    exact ⟨rfl, rfl⟩

end

section
open Go.RowKit
set_option linter.unusedVariables false

end

section
open Go.RowKit
set_option linter.unusedVariables false

end
end Go.Proofs.YtkmjeegnijohmaaGreat

namespace Go.Proofs.YtkmjeegnijohmaaGreat
open Go.RowKit
set_option linter.unusedVariables false

theorem elemI_old {W X : World} {a : Option Addr} {n c : Nat} {l : List Int} (h : IntsAt W a l) (hn : l.length = n) (hm : n ≤ maxLen) (hb : Below W.heap.size W X) : ElemI 3 X W.heap.size (fun _ => True) (.slice a n c) l :=
  ⟨a, n, c, rfl, hn, hm, fun j hj => by
    obtain ⟨b, o, e, hlt, hc⟩ := h j hj
    exact ⟨b, o, e, trivial, Nat.lt_of_lt_of_le hlt hb.size, .inl hlt, (hb.cell (p := ⟨b, _, none⟩) hlt).trans hc⟩⟩
theorem elemQ_old {W X : World} {a : Option Addr} {n c : Nat} {l : List Rt} (h : RatsAt W a l) (hn : l.length = n) (hm : n ≤ maxLen) (hb : Below W.heap.size W X) : ElemQ X W.heap.size (.slice a n c) l :=
  ⟨a, n, c, rfl, hn, hm, fun j hj => by
    obtain ⟨b, o, e, hlt, h0, h1⟩ := h j hj
    exact ⟨b, o, e, Nat.lt_of_lt_of_le hlt hb.size, .inl hlt, (hb.cell (p := ⟨b, _, none⟩) hlt).trans h0, (hb.cell (p := ⟨b, _, none⟩) hlt).trans h1⟩⟩

def fitsR (M : Mask) (y : List Int) (k : Int) : List FitT := (allF M y).filter (fun f => decide ((f.1.length : Int) ≤ k))
theorem filter_take {α : Type} (f : α → Bool) (l : List α) {k : Nat} (hk : k < l.length) : (l.take (k + 1)).filter f = (l.take k).filter f ++ (if f l[k] = true then [l[k]] else []) := by
  rw [List.take_succ_eq_append_getElem hk, List.filter_append]
  congr 1
  rw [List.filter_cons]
  rfl

theorem r4within_c (n lo hi : Int) (w : World) : Calls Tryz.prog 120 #[.int .i64 n, .int .i64 lo, .int .i64 hi] w fun e w' => e = .returned (.bool (inB n lo hi)) ∧ w = w' := by
  by_cases h1 : lo ≤ n <;> by_cases h2 : n ≤ hi
  all_goals
    go_enter Tryz.func120, Tryz.ntmps120
    go_wp2
    go_ret
    exact ⟨ret_bool (by simp [inB, h1, h2]), rfl⟩

theorem allF_le (M : Mask) (y : List Int) (h : colsM M ≤ 10) : (allF M y).length ≤ 20000 :=
  Nat.le_trans (List.length_filterMap_le _ _) (allS_le h)

set_option maxRecDepth 100000 in
set_option maxHeartbeats 2000000 in
theorem r4Fits_c (w : World) (a a2 : Option Addr) (n cap n2 cap2 : Nat) (M : Mask) (y : List Int) (k : Int) (hn : M.length = n) (hn2 : y.length = n2) (hm : n ≤ maxLen) (hm2 : n2 ≤ maxLen) (H : RowsAt w a M) (H2 : IntsAt w a2 y) :
    Calls Tryz.prog 106 #[.slice a n cap, .slice a2 n2 cap2, .int .i64 k] w fun e w' => Below w.heap.size w w' ∧ ((countE M y k ≠ 0 ∧ e = .returned (.tuple #[.slice none 0 0, .int .i64 (countE M y k)])) ∨
      (countE M y k = 0 ∧ ∃ v base, e = .returned (.tuple #[v, .int .i64 0]) ∧ w.heap.size ≤ base ∧ FitsO w' base v (fitsR M y k))) := by
  have HRD := hid (r3Read_c w a a2 n cap n2 cap2 M y hn hn2 hm hm2 H H2)
  rw [rd_check] at HRD
  have HW := hid (fun X => r4within_c k 0 10 X)
  by_cases h0 : checkE M y [] = 0
  rotate_left
  · have he : countE M y k = checkE M y [] := by unfold countE; rw [if_neg h0]
    rw [he]
    obtain ⟨E, hE⟩ : ∃ E, E = checkE M y [] := ⟨_, rfl⟩
    rw [← hE] at HRD h0 ⊢
    have hne : (E != 0) = true := by simpa using h0
    have H0 := hid h0
    clear hn hn2 hm hm2 H H2 he hE h0
    go_enter Tryz.func106, Tryz.ntmps106
    go_wp2_with (go_at_call 119; refine HRD.out.mono ?_; rintro e w1 ⟨rfl, rfl⟩)
    go_ret2
    exact ⟨Below.refl _ _, .inl ⟨H0.out, rfl⟩⟩
  · obtain ⟨hM, _, _, _⟩ := check_ok h0
    obtain ⟨_, _, _, _, hc10⟩ := okM_ok hM
    cases hI : inB k 0 10
    · have he : countE M y k = 7 := by unfold countE; rw [if_pos h0, hI]; rfl
      rw [h0] at HRD
      rw [hI] at HW
      rw [he]
      clear hn hn2 hm hm2 H H2 he h0 hI
      go_enter Tryz.func106, Tryz.ntmps106
      go_wp2_with first
        | (go_at_call 119; refine HRD.out.mono ?_; rintro e w1 ⟨rfl, rfl⟩)
        | (go_at_call 120; refine (HW.out _).mono ?_; rintro e w2 ⟨rfl, rfl⟩)
      go_ret2
      exact ⟨Below.refl _ _, .inl ⟨by decide, rfl⟩⟩
    · have he : countE M y k = 0 := by unfold countE; rw [if_pos h0, hI]; rfl
      have HAL := hid (r4All_c w a a2 n cap n2 cap2 M y hn hn2 hm hm2 H H2 hM)
      have HLE := hid (allF_le M y hc10)
      have HFR := hid (show fitsR M y k = (allF M y).filter (fun f => decide ((f.1.length : Int) ≤ k)) from rfl)
      rw [h0] at HRD
      rw [hI] at HW
      rw [he]
      obtain ⟨T, hT⟩ : ∃ T, T = allF M y := ⟨_, rfl⟩
      obtain ⟨R, hR⟩ : ∃ R, R = fitsR M y k := ⟨_, rfl⟩
      rw [← hT] at HAL HLE HFR
      rw [← hR] at HFR ⊢
      have hle := HLE.out
      clear hn hn2 hm hm2 H H2 he h0 hI hM hT hR hc10
      go_enter Tryz.func106, Tryz.ntmps106
      go_wp2_with first
        | (go_at_call 119; refine HRD.out.mono ?_; rintro e w1 ⟨rfl, rfl⟩)
        | (go_at_call 120; refine (HW.out _).mono ?_; rintro e w2 ⟨rfl, rfl⟩)
        | (go_at_call 121; refine HAL.out.mono ?_; rintro e w1 ⟨v1, base1, rfl, _, ho1, hb1⟩; refine Stop.of ?_)
      refine Stop.go ?_
      obtain ⟨ta, tc, rfl, _, htf⟩ := ho1.reads
      have HTF := hid htf
      have HB1 := hid hb1
      clear ho1 htf hb1 HAL HRD HW
      go_wp2
      go_loopw [9, 25] (fun v i wr => ∃ q : Nat, q ≤ T.length ∧ i = .int .i64 q ∧ FitsO wr w1.heap.size v ((T.take q).filter (fun f => decide ((f.1.length : Int) ≤ k))) ∧ Below w1.heap.size w1 wr) (fun _ i _ => T.length - (intOf i).toNat)
      case atStart => exact ⟨0, Nat.zero_le _, rfl, FitsO.nil _ _, Below.refl _ _⟩
      case round =>
        obtain ⟨q, hq, rfl, ho, hbk⟩ := hrel
        by_cases hlt : q < T.length
        · obtain ⟨b, off, pa, pn, pc, va, vn, vc, rfl, hbs, hc0, hc1, hpn, hpm, hpi, hvn, hvm, hvi⟩ := HTF.out q hlt
          have g0 := (hbk.cell (p := ⟨b, off + q * 2, none⟩) hbs).trans hc0
          have g1 := (hbk.cell (p := ⟨b, off + q * 2 + 1, none⟩) hbs).trans hc1
          have hft := filter_take (fun f : FitT => decide ((f.1.length : Int) ≤ k)) T hlt
          have hcnt : ((T.take q).filter (fun f => decide ((f.1.length : Int) ≤ k))).length ≤ 20000 := by
            have h1 := List.length_filter_le (fun f : FitT => decide ((f.1.length : Int) ≤ k)) (T.take q)
            rw [List.length_take] at h1; omega
          obtain ⟨f, hf⟩ : ∃ f, f = T[q]'hlt := ⟨_, rfl⟩
          rw [← hf] at hpn hpi hvn hvi hft
          rw [hpn] at hft
          obtain ⟨C, hC⟩ : ∃ C, C = (T.take q).filter (fun f => decide ((f.1.length : Int) ≤ k)) := ⟨_, rfl⟩
          rw [← hC] at ho hft hcnt
          have HFT2 := hid hft
          have HCN := hid hcnt
          have HBK := hid hbk
          have HO := hid ho
          have HPI := hid hpi
          have HVI := hid hvi
          have HPN := hid hpn
          have HVN := hid hvn
          have hki : (q : Int) < (T.length : Int) := by omega
          have hki0 : (0 : Int) ≤ (q : Int) := by omega
          clear hft hcnt hf hC hpi hvi hpn hvn hbk ho hc0 hc1
          by_cases hle2 : (pn : Int) ≤ k
          · have hft2 := HFT2.out
            rw [if_pos (by simpa using hle2)] at hft2
            have HF2 := hid hft2
            have hba : Below wr.heap.size wr (wr.alloc (.cells #[.slice pa pn pc, .slice va vn vc] 110)) := (Below.refl _ _).alloc (Nat.le_refl _) _
            have hFO := HO.out.below hba
            obtain ⟨xs, hoo, hoe⟩ := hFO
            obtain ⟨oa, oc, rfl⟩ := ownsRow_slice hoo
            have hBW := chain HBK.out hba
            have HEI := hid (elemI_old (c := pc) HPI.out HPN.out hpm hBW)
            have HEQ := hid (elemQ_old (c := vc) HVI.out HVN.out hvm hBW)
            have HOO := hid hoo
            have HOE := hid hoe
            have HBW := hid hBW
            have hnw := news2 (wr.alloc (.cells #[.slice pa pn pc, .slice va vn vc] 110)) (.slice pa pn pc) (.slice va vn vc) 110
            rw [World.size_alloc] at hnw
            have HNW := hid hnw
            have M1 := hid (show C.length + 1 ≤ maxLen by have := HCN.out; unfold maxLen; omega)
            have M2 := hid (show (C.length + 1) * 48 ≤ 140737488355328 by have := HCN.out; omega)
            have M3 := hid (Nat.le_trans hBW.size (le_alloc _ (.cells #[.slice pa pn pc, .slice va vn vc] 110)))
            have HONE := hid (show ∀ u ∈ [Value.slice pa pn pc, .slice va vn vc], u.oneCell' = true from fun u hu => by simp at hu; rcases hu with rfl | rfl <;> rfl)
            clear hft2 hba hoo hoe hBW hnw
            go_wp2_with (at_builtin; refine wpList_app _ rfl (.tmp 34) (.tmp 36) 111 rfl w1.heap.size 110 (.agg #[.slice none 0 0, .slice none 0 0]) 2 48 Tryz.underlying111 info_fit rfl (by decide) (.slice oa C.length oc) C.length xs rfl (HOO.out.alloc _) (some ⟨wr.heap.size + 1, 0, none⟩) 1 1 [.slice pa pn pc, .slice va vn vc] rfl rfl no_none HNW.out HONE.out M1.out M2.out M3.out ?_; intro a9 c9 w9 own9 g9; refine Stop.of ?_)
            refine Stop.go ?_
            have hsn := FitsO.snoc (t := f) HOO.out HOE.out HEI.out HEQ.out ((Below.refl _ _).alloc (Nat.le_refl _) _) g9 own9
            have hB9 : Below w1.heap.size w1 w9 := (HBW.out.alloc HBW.out.size _).grown g9 M3.out (fun g hg => (HOO.out.lt g hg).1)
            rw [← HF2.out] at hsn
            have HSN := hid hsn
            have HB9 := hid hB9
            clear hsn hB9 own9 g9
            go_wp2
            exact ⟨⟨q + 1, by omega, by go_num, HSN.out, HB9.out⟩, by simp [intOf]; omega⟩
          · have hft2 := HFT2.out
            rw [if_neg (by simpa using hle2), List.append_nil] at hft2
            have HF2 := hid hft2
            have hba : ∀ o : Obj, Below wr.heap.size wr (wr.alloc o) := fun o => (Below.refl _ _).alloc (Nat.le_refl _) _
            have HBA := hid hba
            clear hft2 hba
            go_wp2
            refine ⟨⟨q + 1, by omega, by go_num, ?_, chain HBK.out (HBA.out _)⟩, by simp [intOf]; omega⟩
            rw [HF2.out]; exact HO.out.below (HBA.out _)
        · obtain rfl : q = T.length := by omega
          rw [List.take_of_length_le (Nat.le_refl _), ← HFR.out] at ho
          have HO := hid ho
          have HBK := hid hbk
          clear ho hbk
          go_wp2
          go_ret2
          exact ⟨chain HB1.out HBK.out, .inr ⟨trivial, _, w1.heap.size, rfl, HB1.out.size, HO.out⟩⟩
end Go.Proofs.YtkmjeegnijohmaaGreat

namespace Go.Proofs.YtkmjeegnijohmaaGreat
open Go.RowKit
set_option linter.unusedVariables false

def dOk (f : FitT) (t : Nat) : Bool := (f.2.take t).all (fun r => decide (r.2 = 1))
theorem dOk_succ {f : FitT} {t : Nat} (h : t < f.2.length) : dOk f (t + 1) = (dOk f t && decide (f.2[t].2 = 1)) := by
  unfold dOk
  rw [List.take_succ_eq_append_getElem h, List.all_append]
  simp
theorem dOk_all (f : FitT) : dOk f f.2.length = f.2.all (fun r => decide (r.2 = 1)) := by unfold dOk; rw [List.take_length]
def oneR (M : Mask) (f : FitT) : Option (List Int) := if (f.2.all (fun r => decide (r.2 = 1)) && okShownV M (spreadI (colsM M) f)) = true then some (spreadI (colsM M) f) else none
def wholeR' (M : Mask) (y : List Int) (k : Int) : List (List Int) := (fitsR M y k).filterMap (oneR M)
theorem allF_facts {M : Mask} {y : List Int} {f : FitT} (h : f ∈ allF M y) : SetOk (colsM M) f.1 ∧ f.2.length = f.1.length ∧ f.1.length ≤ colsM M := by
  unfold allF at h
  obtain ⟨S, hS, e⟩ := List.mem_filterMap.1 h
  obtain ⟨h1, h2⟩ := fitF_len e
  rw [h1]
  exact ⟨(allS_ok hS).2, h2, (allS_ok hS).1⟩
theorem fitsR_facts {M : Mask} {y : List Int} {k : Int} {f : FitT} (h : f ∈ fitsR M y k) : SetOk (colsM M) f.1 ∧ f.2.length = f.1.length ∧ f.1.length ≤ colsM M := allF_facts (List.mem_filter.1 h).1

set_option maxRecDepth 100000 in
set_option maxHeartbeats 1000000 in
theorem r4Whole_c (w : World) (a a2 : Option Addr) (n cap n2 cap2 : Nat) (M : Mask) (y : List Int) (k : Int) (hn : M.length = n) (hn2 : y.length = n2) (hm : n ≤ maxLen) (hm2 : n2 ≤ maxLen) (H : RowsAt w a M) (H2 : IntsAt w a2 y) :
    Calls Tryz.prog 85 #[.slice a n cap, .slice a2 n2 cap2, .int .i64 k] w fun e w' => Below w.heap.size w w' ∧ ((countE M y k ≠ 0 ∧ e = .returned (.tuple #[.slice none 0 0, .int .i64 (countE M y k)])) ∨
      (countE M y k = 0 ∧ ∃ v base, e = .returned (.tuple #[v, .int .i64 0]) ∧ w.heap.size ≤ base ∧ RowsN 33 w' base (fun _ => True) v (wholeR' M y k))) := by
  have HFT := hid (r4Fits_c w a a2 n cap n2 cap2 M y k hn hn2 hm hm2 H H2)
  by_cases h0 : countE M y k = 0
  rotate_left
  · obtain ⟨E, hE⟩ : ∃ E, E = countE M y k := ⟨_, rfl⟩
    rw [← hE] at HFT h0 ⊢
    have hne : (E != 0) = true := by simpa using h0
    have H0 := hid h0
    clear hn hn2 hm hm2 H H2 hE h0
    go_enter Tryz.func85, Tryz.ntmps85
    go_wp2_with (go_at_call 106; refine HFT.out.mono ?_; rintro e w1 ⟨hb1, ⟨_, rfl⟩ | ⟨h, _⟩⟩; rotate_left; exact absurd h H0.out)
    go_ret2
    exact ⟨hb1, .inl ⟨H0.out, rfl⟩⟩
  · have hM : okM M = true := by
      unfold countE at h0
      split at h0
      · rename_i h; exact (check_ok h).1
      · rename_i h; exact absurd h0 h
    obtain ⟨_, h1, h6, hc1, hc10⟩ := okM_ok hM
    obtain ⟨b, off, ra, rc, rfl, hb, hc⟩ := rows_head H (by omega)
    have i0 : (0 : Int) < (n : Int) := by omega
    have HC0 := hid (show ∀ X : World, Below w.heap.size w X → X.cell? ⟨b, off, none⟩ = some (.slice ra (colsM M) rc) from fun X hX => (hX.cell (p := ⟨b, off, none⟩) hb).trans hc)
    have HSH := hid (fun (X : World) (hX : Below w.heap.size w X) (xa : Option Addr) (xn xc : Nat) (x : List Int) (hx : x.length = xn) (hxm : xn ≤ maxLen) (hi : IntsAt X xa x) => r2Shown_c X (some ⟨b, off, none⟩) n cap M hn hm (H.below hX) xa xn xc x hx hxm hi)
    have HLE := hid (show (fitsR M y k).length ≤ 20000 from Nat.le_trans (List.length_filter_le _ _) (allF_le M y hc10))
    have HFF := hid (fun (f : FitT) (hf : f ∈ fitsR M y k) => fitsR_facts hf)
    have HWR := hid (show wholeR' M y k = (fitsR M y k).filterMap (oneR M) from rfl)
    have HON := hid (show ∀ f, oneR M f = if (f.2.all (fun r => decide (r.2 = 1)) && okShownV M (spreadI (colsM M) f)) = true then some (spreadI (colsM M) f) else none from fun f => rfl)
    rw [h0] at HFT ⊢
    obtain ⟨T, hT⟩ : ∃ T, T = fitsR M y k := ⟨_, rfl⟩
    obtain ⟨R, hR⟩ : ∃ R, R = wholeR' M y k := ⟨_, rfl⟩
    obtain ⟨W, hW⟩ : ∃ W, W = colsM M := ⟨_, rfl⟩
    rw [← hT] at HFT HLE HFF HWR
    rw [← hR] at HWR ⊢
    rw [← hW] at HC0 HFF HON hc1 hc10
    have HMK := hid (show ∀ w, (Instr.makeSlice 33 (.int .i64 (W : Int)) (.int .i64 (W : Int))).run Tryz.prog w = .ok (.slice (some ⟨w.heap.size, 0, none⟩) W W) (w.alloc (.cells (madeCells #[.int .i64 0] W) 3)) from fun w => run_make_row' 33 3 (.int .i64 0) 8 Tryz.underlying33 li_int rfl .i64 .i64 W (by omega) (by omega) w)
    have hle := HLE.out
    clear hn hn2 hm hm2 H H2 h0 hM h1 h6 hc hb hT hR hW
    go_enter Tryz.func85, Tryz.ntmps85
    go_wp2_with (go_at_call 106; refine HFT.out.mono ?_; rintro e w1 ⟨hb1, ⟨h, _⟩ | ⟨_, v1, base1, rfl, _, ho1⟩⟩; exact absurd rfl h; refine Stop.of ?_)
    refine Stop.go ?_
    obtain ⟨ta, tc, rfl, _, htf⟩ := ho1.reads
    have HTF := hid htf
    have HB1 := hid hb1
    clear ho1 htf hb1 HFT
    go_wp2
    go_loopw [10, 29] (fun v i wr => ∃ q : Nat, q ≤ T.length ∧ i = .int .i64 q ∧ RowsN 33 wr w1.heap.size (fun _ => True) v ((T.take q).filterMap (oneR M)) ∧ Below w1.heap.size w1 wr) (fun _ i _ => T.length - (intOf i).toNat)
    case atStart => exact ⟨0, Nat.zero_le _, rfl, RowsN.nil _ _ _ _, Below.refl _ _⟩
    case round =>
      obtain ⟨wo, rfl⟩ : ∃ wo, wo = wr := ⟨wr, rfl⟩
      obtain ⟨q, hq, rfl, ho, hbk⟩ := hrel
      by_cases hlt : q < T.length
      · obtain ⟨tb, toff, pa, pn, pc, va, vn, vc, rfl, hbs, hc0, hc1', hpn, hpm, hpi, hvn, hvm, hvi⟩ := HTF.out q hlt
        have g0 := (hbk.cell (p := ⟨tb, toff + q * 2, none⟩) hbs).trans hc0
        have g1 := (hbk.cell (p := ⟨tb, toff + q * 2 + 1, none⟩) hbs).trans hc1'
        have hft := filterMap_take (oneR M) T hlt
        obtain ⟨hset, hlen, hl10⟩ := HFF.out _ (List.getElem_mem hlt)
        have hcnt : ((T.take q).filterMap (oneR M)).length ≤ 20000 := by
          have h1 := List.length_filterMap_le (oneR M) (T.take q)
          rw [List.length_take] at h1; omega
        obtain ⟨f, hf⟩ : ∃ f, f = T[q]'hlt := ⟨_, rfl⟩
        rw [← hf] at hpn hpi hvn hvi hft hset hlen hl10
        have hon := HON.out f
        obtain ⟨C, hC⟩ : ∃ C, C = (T.take q).filterMap (oneR M) := ⟨_, rfl⟩
        rw [← hC] at ho hft hcnt
        obtain rfl : vn = pn := by rw [← hvn, hlen, hpn]
        have hv10 : vn ≤ 10 := by rw [hpn] at hl10; omega
        clear hl10
        obtain ⟨o1, ho1⟩ : ∃ o, o = Obj.cells #[.slice pa vn pc, .slice va vn vc] 110 (0, 0) := ⟨_, rfl⟩
        have hb1 : Below wo.heap.size wo (wo.alloc o1) := (Below.refl _ _).alloc (Nat.le_refl _) _
        have hb2 : Below wo.heap.size wo ((wo.alloc o1).alloc (.cells (madeCells #[.int .i64 0] W) 3)) := hb1.alloc hb1.size _
        have hq1 : ((wo.alloc o1).alloc (.cells (madeCells #[.int .i64 0] W) 3)).heap[wo.heap.size]? = some o1 := by rw [Below.heap_alloc _ _ _ (by simp)]; exact World.alloc_heap_new _ _
        have hx0 : SpRow ((wo.alloc o1).alloc (.cells (madeCells #[.int .i64 0] W) 3)) (wo.heap.size + 1) (List.replicate W 0) := by
          have h := IntRow.made (wo.alloc o1) 3 W
          rw [World.size_alloc] at h
          exact ⟨[], by rw [List.append_nil]; exact h⟩
        rw [ho1] at hq1
        obtain ⟨W2, hW2⟩ : ∃ W2, W2 = (wo.alloc (.cells #[.slice pa vn pc, .slice va vn vc] 110)).alloc (.cells (madeCells #[.int .i64 0] W) 3) := ⟨_, rfl⟩
        subst ho1
        rw [← hW2] at hb2 hq1 hx0
        have hbW2 : Below w1.heap.size w1 W2 := chain hbk hb2
        have hs2 : W2.heap.size = wo.heap.size + 2 := by rw [hW2]; simp
        have HW2 := hid hW2
        have HQ1 := hid hq1
        have HX0 := hid hx0
        have HB2 := hid hb2
        have HBW2 := hid hbW2
        have HFTT := hid hft
        have HON2 := hid hon
        have HSET := hid hset
        have HLEN := hid hlen
        have HCN := hid hcnt
        have HPI := hid hpi
        have HVI := hid hvi
        have HPN := hid hpn
        have HVN := hid hvn
        have HBK := hid hbk
        have HO := hid ho
        have HS2 := hid hs2
        have hm0 := HC0.out _ (chain (chain HB1.out hbk) ((Below.refl _ _).alloc (Nat.le_refl _) (.cells #[.slice pa vn pc, .slice va vn vc] 110)))
        have hmk := HMK.out
        have hki : (q : Int) < (T.length : Int) := by omega
        have hki0 : (0 : Int) ≤ (q : Int) := by omega
        clear hft hon hset hlen hcnt hf hC hpi hvi hpn hvn hbk ho hc0 hc1' hb1 hb2 hq1 hx0 hW2 hbW2 hs2
        go_wp2
        rw [← HW2.out]
        clear hmk hm0
        obtain ⟨y0, y1, _, _, _⟩ := box2_facts HQ1.out
        go_loopw [14, 41] (fun wv i wi => ∃ t : Nat, t ≤ vn ∧ i = .int .i64 t ∧ wv = .bool (dOk f t) ∧ SpRow wi (wo.heap.size + 1) (spreadTo1 W f t) ∧ Keep (fun x => x ≠ wo.heap.size + 1) W2 wi) (fun _ i _ => vn - (intOf i).toNat)
        case atStart => exact ⟨0, Nat.zero_le _, rfl, rfl, HX0.out, Keep.refl _ _⟩
        case round =>
          obtain ⟨t, ht, rfl, rfl, hsp, hkp⟩ := hrel
          have z0 := hkp.cell y0 (by show wo.heap.size ≠ wo.heap.size + 1; omega)
          have z1 := hkp.cell y1 (by show wo.heap.size ≠ wo.heap.size + 1; omega)
          have HKP := hid hkp
          have HSP := hid hsp
          have hwr := HBK.out.size
          by_cases hlt2 : t < vn
          · obtain ⟨pb, po, rfl, hpb, hpc⟩ := HPI.out t (by rw [HPN.out]; exact hlt2)
            have htv : t < f.2.length := by rw [HVN.out]; exact hlt2
            obtain ⟨vb, vo, rfl, hvb, hv0, hv1⟩ := HVI.out t htv
            have p0 := hkp.cell ((HBW2.out.cell (p := ⟨pb, _, none⟩) hpb).trans hpc) (by show pb ≠ wo.heap.size + 1; omega)
            have p1 := hkp.cell ((HBW2.out.cell (p := ⟨vb, _, none⟩) hvb).trans hv0) (by show vb ≠ wo.heap.size + 1; omega)
            have p2 := hkp.cell ((HBW2.out.cell (p := ⟨vb, _, none⟩) hvb).trans hv1) (by show vb ≠ wo.heap.size + 1; omega)
            have hpix := HSET.out.get (i := t) (by rw [HPN.out]; exact hlt2)
            have hgx : f.1[t]?.getD 0 = f.1[t]'(by rw [HPN.out]; exact hlt2) := by rw [List.getElem?_eq_getElem]; rfl
            rw [← hgx] at hpix
            have hsn := spreadTo1_succ W f t
            have hvx : (f.2[t]?.getD (0, 0)).1 = f.2[t].1 := by rw [List.getElem?_eq_getElem htv]; rfl
            rw [hvx] at hsn
            have hok := dOk_succ htv
            obtain ⟨x, hx⟩ : ∃ x : Nat, f.1[t]?.getD 0 = (x : Int) := ⟨(f.1[t]?.getD 0).toNat, by omega⟩
            rw [hx] at p0 hpix hsn
            rw [Int.toNat_natCast] at hsn
            obtain ⟨⟨r1, r2⟩, hrr⟩ : ∃ r, r = f.2[t] := ⟨_, rfl⟩
            rw [← hrr] at p1 p2 hsn hok
            simp only [] at p1 p2 hsn hok
            obtain ⟨ok, hokk⟩ : ∃ ok, ok = dOk f t := ⟨_, rfl⟩
            rw [← hokk] at hok ⊢
            have hx0 : (0 : Int) ≤ (x : Int) := hpix.1
            have hxW : (x : Int) < (W : Int) := hpix.2
            have hll : (spreadTo1 W f t).length = W := spreadTo1_len W f t
            have hc9 := hsp.cell (j := x) (by rw [hll]; omega)
            have hf9 := hsp.frozen x
            have hl9 := hsp.lt
            have hset := hsp.set x (by rw [hll]; omega) r1
            rw [← hsn] at hset
            have HST := hid hset
            have HOK := hid hok
            have hti : (t : Int) < (vn : Int) := by omega
            have hti0 : (0 : Int) ≤ (t : Int) := by omega
            clear hgx hvx hx hrr hokk hok hset hsn hpix hll hsp hkp hpc hv0 hv1 htv y0 y1
            cases ok
            · have hok2 : dOk f (t + 1) = false := by rw [HOK.out]; rfl
              have HOK2 := hid hok2
              clear hok2 HOK
              go_wp2
              refine ⟨⟨t + 1, by omega, by go_num, by rw [HOK2.out], HST.out, HKP.out.trans (Keep.set _ _ _ _)⟩, by simp [intOf]; omega⟩
            · by_cases hr2 : r2 = 1
              · subst hr2
                have hok2 : dOk f (t + 1) = true := by rw [HOK.out]; simp
                have HOK2 := hid hok2
                clear hok2 HOK
                go_wp2
                refine ⟨⟨t + 1, by omega, by go_num, by rw [HOK2.out], HST.out, HKP.out.trans (Keep.set _ _ _ _)⟩, by simp [intOf]; omega⟩
              · have hok2 : dOk f (t + 1) = false := by rw [HOK.out]; simp [hr2]
                have hre : (r2 == 1) = false := by simpa using hr2
                have HOK2 := hid hok2
                clear hok2 HOK hr2
                go_wp2
                refine ⟨⟨t + 1, by omega, by go_num, by rw [HOK2.out], HST.out, HKP.out.trans (Keep.set _ _ _ _)⟩, by simp [intOf]; omega⟩
          · obtain rfl : vn = t := by omega
            have hda : dOk f vn = f.2.all (fun r => decide (r.2 = 1)) := by rw [← dOk_all, HVN.out]
            have hspI : spreadTo1 W f vn = spreadI W f := by unfold spreadI; rw [HPN.out]
            rw [hspI] at hsp
            have hbwi : Below w1.heap.size w1 wr := hkp.below HBW2.out HBW2.out.size (fun x hx => by show x ≠ wo.heap.size + 1; omega)
            have hkr : Below wo.heap.size wo wr := hkp.below HB2.out HB2.out.size (fun x hx => by show x ≠ wo.heap.size + 1; omega)
            have hon := HON2.out
            have hil : (spreadI W f).length = W := by unfold spreadI; exact spreadTo1_len W f _
            have HSX := hid hsp
            have HBWI := hid hbwi
            have HKR := hid hkr
            obtain ⟨ok, hokk⟩ : ∃ ok, ok = dOk f vn := ⟨_, rfl⟩
            rw [← hda, ← hokk] at hon
            rw [← hokk]
            have hsh := HSH.out wr (chain HB1.out hbwi) (some ⟨wo.heap.size + 1, 0, none⟩) W W (spreadI W f) hil (by unfold maxLen; omega) hsp.ints
            have HIL := hid hil
            cases ok
            · have hno : oneR M f = none := by rw [hon]; rfl
              have hft2 := HFTT.out
              rw [hno] at hft2
              simp only [Option.toList_none, List.append_nil] at hft2
              have HF2 := hid hft2
              clear hno hft2 hon hsh hokk hda hspI hsp hkp hbwi hkr hil z0 z1 y0 y1
              go_wp2
              refine ⟨⟨q + 1, by omega, by go_num, ?_, HBWI.out⟩, by simp [intOf]; omega⟩
              rw [HF2.out]; exact HO.out.keep (Keep.of_below HKR.out : Keep (fun _ => True) _ _) (fun _ _ _ => ⟨trivial, trivial⟩)
            · obtain ⟨B, hB⟩ : ∃ B, B = okShownV M (spreadI W f) := ⟨_, rfl⟩
              rw [← hB] at hsh hon
              have HSHH := hid hsh
              have HONN := hid hon
              clear hon hsh hokk hda hspI hsp hkp hbwi hkr hil z0 z1 y0 y1 hB
              cases B
              · have hno : oneR M f = none := by rw [HONN.out]; rfl
                have hft2 := HFTT.out
                rw [hno] at hft2
                simp only [Option.toList_none, List.append_nil] at hft2
                have HF2 := hid hft2
                clear hno hft2
                go_wp2_with (go_at_call 107; refine HSHH.out.mono ?_; rintro e w5 ⟨rfl, rfl⟩)
                refine ⟨⟨q + 1, by omega, by go_num, ?_, HBWI.out⟩, by simp [intOf]; omega⟩
                rw [HF2.out]; exact HO.out.keep (Keep.of_below HKR.out : Keep (fun _ => True) _ _) (fun _ _ _ => ⟨trivial, trivial⟩)
              · have hyes : oneR M f = some (spreadI W f) := by rw [HONN.out]; rfl
                have hft2 := HFTT.out
                rw [hyes] at hft2
                simp only [Option.toList_some] at hft2
                have HF2 := hid hft2
                have hFO := HO.out.keep (S' := fun _ => True) (Keep.of_below HKR.out : Keep (fun _ => True) _ _) (fun _ _ _ => ⟨trivial, trivial⟩)
                obtain ⟨xs, hoo, hgg, hoe⟩ := hFO
                obtain ⟨oa, oc, rfl⟩ := ownsRow_slice hoo
                have HOO := hid hoo
                have HOE := hid hoe
                have HEN := hid (show ElemN wr w1.heap.size (fun _ => True) (.slice (some ⟨wo.heap.size + 1, 0, none⟩) W W) (spreadI W f) from ⟨wo.heap.size + 1, W, by rw [HIL.out], by omega, trivial, HSX.out, by rw [HIL.out]; unfold maxLen; omega⟩)
                have M1 := hid (show C.length + 1 ≤ maxLen by have := HCN.out; unfold maxLen; omega)
                have M2 := hid (show (C.length + 1) * 24 ≤ 140737488355328 by have := HCN.out; omega)
                have M3 := hid (Nat.le_trans HBWI.out.size (le_alloc _ (.cells #[.slice (some ⟨wo.heap.size + 1, 0, none⟩) W W] 33)))
                clear hyes hft2 hoo hgg hoe
                go_wp2_with first
                  | (go_at_call 107; refine HSHH.out.mono ?_; rintro e w5 ⟨rfl, rfl⟩)
                  | (at_builtin; refine wpList_app _ rfl (.tmp 72) (.tmp 74) 22 rfl w1.heap.size 33 (.slice none 0 0) 1 24 Tryz.underlying22 li_ints rfl Nat.one_pos (.slice oa C.length oc) C.length xs rfl (HOO.out.alloc _) (some ⟨wr.heap.size, 0, none⟩) 1 1 [.slice (some ⟨wo.heap.size + 1, 0, none⟩) W W] rfl rfl no_none (one_news wr _ _) (slice_oneCell _ _ _) M1.out M2.out M3.out ?_; intro a9 c9 w9 own9 g9; refine Stop.of ?_)
                refine Stop.go ?_
                have hsn := RowsN.snoc (l := spreadI W f) (by decide) HOO.out HOE.out HEN.out ((Below.refl _ _).alloc (Nat.le_refl _) _) g9 own9 (fun _ _ => trivial)
                have hB9 : Below w1.heap.size w1 w9 := (HBWI.out.alloc HBWI.out.size _).grown g9 M3.out (fun g hg => (HOO.out.lt g hg).1)
                rw [← HF2.out] at hsn
                have HSN := hid hsn
                have HB9 := hid hB9
                clear hsn hB9 own9 g9
                go_wp2
                exact ⟨⟨q + 1, by omega, by go_num, HSN.out, HB9.out⟩, by simp [intOf]; omega⟩
      · obtain rfl : q = T.length := by omega
        rw [List.take_of_length_le (Nat.le_refl _), ← HWR.out] at ho
        have HO := hid ho
        have HBK := hid hbk
        clear ho hbk
        go_wp2
        go_ret2
        exact ⟨chain HB1.out HBK.out, .inr ⟨trivial, _, w1.heap.size, rfl, HB1.out.size, HO.out⟩⟩
end Go.Proofs.YtkmjeegnijohmaaGreat

namespace Go.Proofs.YtkmjeegnijohmaaGreat
set_option linter.unusedVariables false

theorem filterMap_eq {α β : Type} {f g : α → Option β} : ∀ (l : List α), (∀ x ∈ l, f x = g x) → l.filterMap f = l.filterMap g
  | [], _ => rfl
  | x :: l, h => by
    rw [List.filterMap_cons, List.filterMap_cons, h x (by simp), filterMap_eq l (fun y hy => h y (by simp [hy]))]
theorem lvls_fits (M : Mask) (y : List Int) (n : Nat) : ∀ k, (lvls n k).filterMap (fitF M y) = fitsTo M y n (k + 1)
  | 0 => by
    rw [fitsTo_succ]
    show (comb n 0 0).filterMap (fitF M y) = fitsTo M y n 0 ++ _
    simp [fitsTo]
  | k + 1 => by
    rw [fitsTo_succ, ← lvls_fits M y n k]
    show (lvls n k ++ comb n (k + 1) 0).filterMap (fitF M y) = _
    rw [List.filterMap_append]
theorem allF_to (M : Mask) (y : List Int) : allF M y = fitsTo M y (colsM M) (colsM M + 1) := lvls_fits M y _ _
theorem fits_size {M : Mask} {y : List Int} {W j : Nat} {f : FitT} (h : f ∈ (comb W j 0).filterMap (fitF M y)) : f.1.length = j := by
  obtain ⟨S, hS, e⟩ := List.mem_filterMap.1 h
  rw [(fitF_len e).1]
  exact comb_len _ _ _ _ hS
theorem fits_cut (M : Mask) (y : List Int) (W k : Nat) : ∀ t, (fitsTo M y W t).filter (fun f => decide ((f.1.length : Int) ≤ (k : Int))) = fitsTo M y W (min t (k + 1))
  | 0 => by simp [fitsTo]
  | t + 1 => by
    rw [fitsTo_succ, List.filter_append, fits_cut M y W k t]
    rcases Nat.lt_or_ge k t with h | h
    · have h1 : ((comb W t 0).filterMap (fitF M y)).filter (fun f => decide ((f.1.length : Int) ≤ (k : Int))) = [] := by
        rw [List.filter_eq_nil_iff]
        intro f hf
        have := fits_size hf
        simp; omega
      rw [h1, List.append_nil, show min t (k + 1) = k + 1 by omega, show min (t + 1) (k + 1) = k + 1 by omega]
    · have h1 : ((comb W t 0).filterMap (fitF M y)).filter (fun f => decide ((f.1.length : Int) ≤ (k : Int))) = (comb W t 0).filterMap (fitF M y) := by
        rw [List.filter_eq_self]
        intro f hf
        have := fits_size hf
        simp; omega
      rw [h1, show min t (k + 1) = t by omega, show min (t + 1) (k + 1) = t + 1 by omega, fitsTo_succ]

theorem fit_long {M : Mask} {y S : List Int} (h : M.length < S.length) : fitF M y S = none := by
  unfold fitF
  rw [if_neg]
  rintro ⟨h0, _⟩
  unfold solveV at h0
  split at h0
  · rename_i hc
    obtain ⟨hM, hy, hyB, hS⟩ := check_ok hc
    have hmo := (okM_ok hM).1
    have hY := (hmo.cols S).addY (y := y) (by rw [colsF_len]; exact hy) (Y := 1000000) (by decide) (fun v hv => by
      unfold milB at hyB
      have := List.all_eq_true.1 hyB v hv
      unfold inB at this
      simp at this; omega)
    have hi := pRed_inv (withY (colsF M S) y) hY.wid S.length (fun j hj q => rowv_le (by decide) (fun r hr => hY.one r hr j hj) q)
    have hk := hi.K_le
    rw [withY_len (by rw [colsF_len]; exact hy), colsF_len] at hk
    unfold solveP at h0
    simp only [] at h0
    split at h0
    · simp at h0
    · split at h0
      · simp at h0
      · omega
  · rename_i hc; exact hc h0
theorem fits_long (M : Mask) (y : List Int) (W : Nat) : ∀ d, fitsTo M y W (M.length + 1 + d) = fitsTo M y W (M.length + 1)
  | 0 => rfl
  | d + 1 => by
    rw [show M.length + 1 + (d + 1) = (M.length + 1 + d) + 1 by omega, fitsTo_succ, fits_long M y W d]
    have h1 : (comb W (M.length + 1 + d) 0).filterMap (fitF M y) = [] := by
      rw [List.filterMap_eq_nil_iff]
      intro S hS
      refine fit_long ?_
      rw [comb_len _ _ _ _ hS]; omega
    rw [h1, List.append_nil]
theorem fits_same (M : Mask) (y : List Int) (k : Nat) : fitsR M y (k : Int) = fitsF M y k := by
  unfold fitsR fitsF
  rw [allF_to, fits_cut]
  rcases Nat.lt_or_ge M.length (min k (colsM M)) with h | h
  · obtain ⟨d, hd⟩ : ∃ d, min (colsM M + 1) (k + 1) = M.length + 1 + d := ⟨min (colsM M + 1) (k + 1) - (M.length + 1), by omega⟩
    rw [hd, fits_long, show min (min k (colsM M)) M.length + 1 = M.length + 1 by omega]
  · rw [show min (colsM M + 1) (k + 1) = min (min k (colsM M)) M.length + 1 by omega]

theorem spread_at {W : Nat} {f : FitT} (h : SetOk W f.1) : ∀ k, k ≤ f.1.length → ∀ i, i < k → vec (spreadTo1 W f k) (f.1[i]?.getD 0).toNat = (f.2[i]?.getD (0, 0)).1
  | 0, _, i, hi => by omega
  | k + 1, hk, i, hi => by
    rw [spreadTo1_succ]
    have hg : ∀ j (hj : j < f.1.length), f.1[j]?.getD 0 = f.1[j] := fun j hj => by rw [List.getElem?_eq_getElem hj]; rfl
    have hb := h.get (i := k) (by omega)
    by_cases e : i = k
    · subst e
      unfold vec
      rw [List.getElem?_set_self (by rw [spreadTo1_len, hg _ (by omega)]; omega)]
      rfl
    · have hne : (f.1[k]?.getD 0).toNat ≠ (f.1[i]?.getD 0).toNat := by
        rw [hg _ (by omega), hg _ (by omega)]
        intro he
        have hbi := h.get (i := i) (by omega)
        exact e (h.inj (i := i) (j := k) (by omega) (by omega) (by omega))
      unfold vec
      rw [List.getElem?_set_ne hne]
      exact spread_at h k (by omega) i (by omega)
theorem spread1_all {W : Nat} {f : FitT} {P : Int → Prop} (h0 : P 0) (hv : ∀ i : Nat, P (f.2[i]?.getD ((0, 0) : Rt)).1) : ∀ k, ∀ v ∈ spreadTo1 W f k, P v
  | 0 => fun v hv' => by simp [spreadTo1] at hv'; rw [hv'.2]; exact h0
  | k + 1 => fun v hv' => by
    rw [spreadTo1_succ] at hv'
    rcases List.mem_or_eq_of_mem_set hv' with h | h
    · exact spread1_all h0 hv k v h
    · rw [h]; exact hv k

theorem one_same {M : Mask} {f : FitT} (hM : okM M = true) (hs : SetOk (colsM M) f.1) (hl : f.2.length = f.1.length) : oneR M f = wholeOne (colsM M) f := by
  have hlen : (spreadI (colsM M) f).length = colsM M := by unfold spreadI; exact spreadTo1_len _ _ _
  have hc : (f.2.all (fun r => decide (r.2 = 1)) && okShownV M (spreadI (colsM M) f)) = f.2.all wholeR := by
    rw [Bool.eq_iff_iff]
    unfold okShownV
    rw [hM, hlen]
    simp only [Bool.and_eq_true, Bool.true_and, decide_eq_true_eq, List.all_eq_true, true_and]
    constructor
    · rintro ⟨h1, h2⟩ r hr
      unfold wholeR
      simp only [Bool.and_eq_true, decide_eq_true_eq]
      refine ⟨h1 r hr, ?_⟩
      obtain ⟨i, hi, rfl⟩ := List.getElem_of_mem hr
      have h3 := spread_at hs f.1.length (Nat.le_refl _) i (by omega)
      rw [List.getElem?_eq_getElem hi] at h3
      simp only [Option.getD_some] at h3
      unfold milB at h2
      have h4 := vec_mem (P := fun v => inB v (-1000000) 1000000 = true) (by decide) (List.all_eq_true.1 h2) (f.1[i]?.getD 0).toNat
      unfold spreadI at h4
      rw [h3] at h4
      exact h4
    · intro h
      refine ⟨fun r hr => ?_, ?_⟩
      · have := h r hr; unfold wholeR at this; simp only [Bool.and_eq_true, decide_eq_true_eq] at this; exact this.1
      · unfold milB
        rw [List.all_eq_true]
        unfold spreadI
        refine spread1_all (P := fun v => inB v (-1000000) 1000000 = true) (by decide) (fun i => ?_) _
        rcases Nat.lt_or_ge i f.2.length with hi | hi
        · rw [List.getElem?_eq_getElem hi]
          have := h _ (List.getElem_mem hi)
          unfold wholeR at this
          simp only [Bool.and_eq_true, decide_eq_true_eq] at this
          exact this.2
        · rw [List.getElem?_eq_none hi]; decide
  unfold oneR wholeOne
  rw [hc]

theorem whole_same {M : Mask} {y : List Int} {k : Int} (h : countE M y k = 0) : wholeR' M y k = wholeF M y k.toNat := by
  unfold countE at h
  split at h
  · rename_i hc
    obtain ⟨hM, _, _, _⟩ := check_ok hc
    split at h
    · rename_i hk
      unfold inB at hk
      simp only [Bool.and_eq_true, decide_eq_true_eq] at hk
      obtain ⟨q, rfl⟩ : ∃ q : Nat, k = (q : Int) := ⟨k.toNat, by omega⟩
      rw [Int.toNat_natCast]
      unfold wholeR' wholeF
      have hf : ∀ f ∈ fitsR M y (q : Int), oneR M f = wholeOne (colsM M) f := fun f hf => one_same hM (fitsR_facts hf).1 (fitsR_facts hf).2.1
      rw [filterMap_eq _ hf, fits_same]
    · simp at h
  · rename_i hc; exact absurd h hc
end Go.Proofs.YtkmjeegnijohmaaGreat

namespace Go.Proofs.YtkmjeegnijohmaaGreat
open Go.RowKit
set_option linter.unusedVariables false

theorem addF_take (r b : List Int) {k : Nat} (hk : k < r.length) : (addF r b).take (k + 1) = (addF r b).take k ++ [vec b k + vec r k] := by
  have hc : k < (addF r b).length := by rw [addF_len]; exact hk
  rw [List.take_succ_eq_append_getElem hc]
  simp [addF, Int.add_comm]

set_option maxRecDepth 100000 in
set_option maxHeartbeats 4000000 in
theorem r8next_c (w : World) (a a2 : Option Addr) (n cap n2 cap2 : Nat) (M : Mask) (kf : Bool) (l : List Int) (o : Option (List Int)) (nv : Value) (lo : Nat) (S : Nat → Prop) (k : Int) (hn : M.length = n) (hM : okM M = true) (hn2 : l.length = n2) (hm2 : n2 ≤ maxLen) (H : RowsAt w a M) (H2 : IntsAt w a2 l) (hf : frB M (kf, l) = true) (ho : OptV w lo S o nv) (hoo : okO M o) :
    Calls Tryz.prog 64 #[.slice a n cap, nv, .agg #[.bool kf, .slice a2 n2 cap2], .int .i64 k] w fun e w' => ∃ v, e = .returned v ∧ OptV w' w.heap.size (fun _ => True) (nextF M k o (kf, l)) v ∧ Below w.heap.size w w' := by
  obtain ⟨_, h1, hn6, hc1, hc10⟩ := okM_ok hM
  have heq := fun (w : World) (a : Option Addr) (n c : Nat) => Lib.run_eql_slice_nil (P := Tryz.prog) w 33 3 a n c 0 0 Tryz.underlying33
  have hbz : Below w.heap.size w (w.alloc (.cells #[.bool kf, .slice a2 n2 cap2] 47)) := (Below.refl _ _).alloc (Nat.le_refl _) _
  have hwz : (w.alloc (.cells #[.bool kf, .slice a2 n2 cap2] 47)).heap[w.heap.size]? = some (.cells #[.bool kf, .slice a2 n2 cap2] 47 (0, 0)) := World.alloc_heap_new _ _
  obtain ⟨z0, z1, _, _, _⟩ := box2_facts hwz
  by_cases h0 : n2 = 0
  · have hnx : nextF M k o (kf, l) = none := by unfold nextF; rw [if_pos (by rw [hn2]; exact h0)]
    rw [hnx]
    have HB := hid hbz
    subst h0
    clear hnx hn hn2 hm2 H H2 hf ho hoo hbz hwz
    go_enter Tryz.func64, Tryz.ntmps64
    go_wp2
    go_ret
    exact ⟨_, rfl, .inl ⟨rfl, rfl⟩, HB.out⟩
  · have hne0 : ((n2 : Int) == 0) = false := by
      have : ¬ (n2 : Int) = 0 := by omega
      simpa using this
    have HB := hid hbz
    cases kf
    · cases o with
      | none =>
        have hnx : nextF M k none (false, l) = none := by unfold nextF; rw [if_neg (by rw [hn2]; exact h0), if_neg (by simp)]
        have hnv : nv = .slice none 0 0 := by
          rcases ho with ⟨_, h⟩ | ⟨x, b, c, h, _⟩
          · exact h
          · cases h
        subst hnv
        rw [hnx]
        clear hnx hn hn2 hm2 H H2 hf ho hoo hbz hwz h0
        go_enter Tryz.func64, Tryz.ntmps64
        go_wp2
        go_ret
        exact ⟨_, rfl, .inl ⟨rfl, rfl⟩, HB.out⟩
      | some b =>
        obtain ⟨bb, bc, rfl, hlo, hbS, hbsp, hb1', hbm⟩ : ∃ bb bc, nv = .slice (some ⟨bb, 0, none⟩) b.length bc ∧ lo ≤ bb ∧ S bb ∧ SpRow w bb b ∧ 1 ≤ b.length ∧ b.length ≤ maxLen := by
          rcases ho with ⟨h, _⟩ | ⟨x, bb, bc, h, e, h2, h3, h4, h5, h6⟩
          · cases h
          · cases h; exact ⟨bb, bc, e, h2, h3, h4, h5, h6⟩
        have hpb := hoo b rfl
        have hbl := pic_bnd hpb
        have hbv : ∀ c, -1000 ≤ vec b c ∧ vec b c ≤ 1000 := fun c => by
          unfold picB at hpb
          simp only [Bool.and_eq_true, decide_eq_true_eq, List.all_eq_true] at hpb
          exact vec_mem (P := fun v => -1000 ≤ v ∧ v ≤ 1000) (by omega) (fun v hv => by have := hpb.2 v hv; unfold inB at this; simpa using this) c
        have hnx : nextF M k (some b) (false, l) = match wholeV M l k with | none => none | some r => if picB M (addF r b) = true then some (addF r b) else none := by
          unfold nextF; (rw [if_neg (by rw [hn2]; exact h0), if_neg (by simp)]) <;> rfl
        have HWH := hid (fun (X : World) (hX : Below w.heap.size w X) => r4Whole_c X a a2 n cap n2 cap2 M l k hn hn2 (by unfold maxLen; omega) hm2 (H.below hX) (H2.below hX))
        have HLI := hid (fun (X : World) (g c : Nat) (x : List Int) (hx : x.length = b.length) (hs : SpRow X g x) => r8list_c X (some ⟨g, 0, none⟩) b.length c x hx hbm hs.ints (b.length : Int) 1000 (by omega) (by omega))
        have HPI := hid (show ∀ x : List Int, listB x (b.length : Int) 1000 = picB M x from fun x => by rw [hbl.1]; exact listB_pic)
        have HNX := hid hnx
        have HBS := hid hbsp
        have HBV := hid hbv
        have HBL := hid hbl.1
        obtain ⟨bn, hbn⟩ : ∃ bn, bn = b.length := ⟨_, rfl⟩
        rw [← hbn] at HLI HPI hb1' hbm
        rw [← hbn]
        have HBN := hid hbn
        have hbn10 : bn ≤ 10 := by omega
        obtain ⟨wz, hz⟩ : ∃ wz, wz = w.alloc (.cells #[.bool false, .slice a2 n2 cap2] 47) := ⟨_, rfl⟩
        have HZ := hid hz
        rw [← hz] at HB
        have zz0 := z0
        have zz1 := z1
        rw [← hz] at zz0 zz1
        clear hnx hn hn2 hm2 H H2 hf ho hoo hbz hwz h0 hz hbsp hpb hbl hbv hbn
        go_enter Tryz.func64, Tryz.ntmps64
        go_wp2_with fail
        rw [← HZ.out]
        clear z0 z1
        go_wp2_with (go_at_call 85; refine (HWH.out _ HB.out).mono ?_; rintro e w2 ⟨hb2, ⟨hE, rfl⟩ | ⟨hE, v2, base, rfl, hbase, hrows⟩⟩ <;> refine Stop.of ?_)
        · refine Stop.go ?_
          have hB2 := chain HB.out hb2
          have hwv : wholeV M l k = none := by unfold wholeV; rw [if_neg hE]
          rw [hwv] at HNX
          have hne : (countE M l k != 0) = true := by simpa using hE
          obtain ⟨E, hEE⟩ : ∃ E, E = countE M l k := ⟨_, rfl⟩
          rw [← hEE] at hne ⊢
          clear hE hEE hwv hb2 zz0 zz1
          go_wp2
          go_ret
          rw [HNX.out]
          exact ⟨_, rfl, .inl ⟨rfl, rfl⟩, hB2⟩
        · refine Stop.go ?_
          have hB2 := chain HB.out hb2
          rw [whole_same hE] at hrows
          by_cases hone : ∃ r, wholeF M l k.toNat = [r]
          · obtain ⟨r, hr⟩ := hone
            have hwv : wholeV M l k = some r := by unfold wholeV; rw [if_pos hE, hr]
            have hrf := wholeF_facts (M := M) (y := l) (q := k.toNat) (r := r) (by rw [hr]; simp)
            rw [hwv] at HNX
            rw [hr] at hrows
            obtain ⟨g, c, rb, rc, rfl, hgc, hrb, hrsp, hgb, hgl⟩ := rowsN_one hrows
            have hrl : r.length = bn := by rw [hrf.1, HBN.out, HBL.out]
            rw [hrl] at hgc
            have HRV := hid hrf.2
            have HRL := hid hrl
            have HRS := hid hrsp
            have HBS2 := hid (HBS.out.keep (hB2.block _ HBS.out.lt))
            have HB2 := hid hB2
            have HCT := hid (fun (k : Nat) (hk : k < r.length) => addF_take r b hk)
            have HCL := hid (show (addF r b).length = bn by rw [addF_len, hrl])
            obtain ⟨C, hC⟩ : ∃ C, C = addF r b := ⟨_, rfl⟩
            rw [← hC] at HCT HCL
            have HC := hid hC
            have HG := hid (show ∀ X : World, Below w2.heap.size w2 X → X.cell? ⟨g, 0, none⟩ = some (.slice (some ⟨rb, 0, none⟩) bn rc) from fun X hX => (hX.cell (p := ⟨g, 0, none⟩) hgl).trans hgc)
            clear hrf hrl hrsp hrows hE hwv hr hb2 hB2 hgb zz0 zz1 hC hgc
            go_wp2
            go_loopw [11, 43] (fun v i wr => ∃ t : Nat, t ≤ bn ∧ i = .int .i64 t ∧ wr.ownsRow w2.heap.size 3 1 v t ((C.take t).map (Value.int .i64)) ∧ Below w2.heap.size w2 wr) (fun _ i _ => bn - (intOf i).toNat)
            case atStart => exact ⟨0, Nat.zero_le _, rfl, World.ownsRow_nil _ _ _ _, Below.refl _ _⟩
            case round =>
              obtain ⟨t, ht, rfl, ho, hbk⟩ := hrel
              by_cases hlt : t < bn
              · have htr : t < r.length := by rw [HRL.out]; exact hlt
                have hbs := (HBS2.out.keep (hbk.block _ HBS2.out.lt)).cell (j := t) (by rw [← HBN.out]; exact hlt)
                have e1 : b[t]?.getD 0 = vec b t := rfl
                rw [e1] at hbs
                have htk := HCT.out t htr
                have g1 := HRV.out t
                have g2 := HBV.out t
                have hgc := HG.out wr hbk
                have hrc := (HRS.out.keep (hbk.block _ HRS.out.lt)).cell (j := t) htr
                have er : r[t]?.getD 0 = vec r t := rfl
                rw [er] at hrc
                obtain ⟨p, hp⟩ : ∃ p, p = vec r t := ⟨_, rfl⟩
                obtain ⟨q, hq⟩ : ∃ q, q = vec b t := ⟨_, rfl⟩
                rw [← hp] at hrc htk g1
                rw [← hq] at hbs htk g2
                obtain ⟨z, hz⟩ : ∃ z, z = q + p := ⟨_, rfl⟩
                rw [← hz] at htk
                have hw : wrap64 (q + p) = z := by rw [hz]; unfold wrap64; omega
                have hw2 : IntKind.i64.wrap (q + p) = z := by rw [IntWalk.i64_left]; exact hw
                have hti : (t : Int) < (bn : Int) := by omega
                have hti0 : (0 : Int) ≤ (t : Int) := by omega
                obtain ⟨la, lc, rfl⟩ := ownsRow_slice ho
                have HTK := hid htk
                have HO := hid ho
                have M1 := hid (show t + 1 ≤ maxLen by unfold maxLen; omega)
                have M2 := hid (show (t + 1) * 8 ≤ 140737488355328 by omega)
                have HBK := hid hbk
                have M3 := hid (Nat.le_trans hbk.size (le_alloc wr (.cells #[.int .i64 z] 3)))
                clear hp hq hz g1 g2 htk e1 er htr hbk ho
                go_wp2_with (at_builtin; refine Stop.of ?_)
                refine Stop.go ?_
                (refine wpList_app _ rfl (.tmp 48) (.tmp 57) 33 rfl w2.heap.size 3 (.int .i64 0) 1 8 Tryz.underlying33 li_int rfl Nat.one_pos (.slice la t lc) t _ rfl (HO.out.alloc _) (some ⟨wr.heap.size, 0, none⟩) 1 1 [.int .i64 z] rfl rfl no_none (one_news wr _ _) (li_one _) M1.out M2.out M3.out ?_)
                intro a3 c3 w3 own3 g3
                have hB3 : Below w2.heap.size w2 w3 := (HBK.out.alloc HBK.out.size _).grown g3 M3.out (fun k hk => (HO.out.lt k hk).1)
                have HB3 := hid hB3
                have HO3 := hid own3
                clear hB3 own3 g3
                go_wp2
                refine ⟨⟨t + 1, by omega, by go_num, ?_, HB3.out⟩, by simp [intOf]; omega⟩
                rw [HTK.out]
                simpa using HO3.out
              · obtain rfl : bn = t := by omega
                rw [List.take_of_length_le (by rw [HCL.out]; exact Nat.le_refl _)] at ho
                obtain ⟨ob, oc, rfl, hob, hosp⟩ := spRow_own ho HCL.out (by omega)
                have hB3 : Below w.heap.size w wr := chain HB2.out hbk
                have HL3 := hid (HLI.out wr ob oc C (by rw [HCL.out]) hosp)
                have hpc := HPI.out C
                rw [← HC.out] at HNX
                have HSP := hid hosp
                have HB3 := hid hB3
                have hob2 : w.heap.size ≤ ob := Nat.le_trans HB2.out.size hob
                obtain ⟨B, hB⟩ : ∃ B, B = picB M C := ⟨_, rfl⟩
                rw [hpc, ← hB] at HL3
                have HNY := hid (show nextF M k (some b) (false, l) = if B = true then some C else none from by rw [hB]; exact HNX.out)
                clear ho hbk hosp hB3 hpc hB HNX hob
                cases B
                · go_wp2_with (go_at_call 58; refine HL3.out.mono ?_; rintro e w4 ⟨rfl, rfl⟩)
                  go_ret
                  rw [HNY.out]
                  exact ⟨_, rfl, .inl ⟨rfl, rfl⟩, HB3.out⟩
                · go_wp2_with (go_at_call 58; refine HL3.out.mono ?_; rintro e w4 ⟨rfl, rfl⟩)
                  go_ret
                  rw [HNY.out]
                  exact ⟨.slice (some ⟨ob, 0, none⟩) bn oc, rfl, .inr ⟨C, ob, oc, rfl, by rw [HCL.out], hob2, trivial, HSP.out, by rw [HCL.out]; exact hb1', by rw [HCL.out]; exact hbm⟩, HB3.out⟩
          · have hwv : wholeV M l k = none := by
              unfold wholeV
              rw [if_pos hE]
              split
              · rename_i r hr; exact absurd ⟨r, hr⟩ hone
              · rfl
            rw [hwv] at HNX
            obtain ⟨va, vc, rfl, hlm, _, _⟩ := hrows.rowsO.reads
            obtain ⟨ln, hln⟩ : ∃ ln, ln = (wholeF M l k.toNat).length := ⟨_, rfl⟩
            have hln1 : ln ≠ 1 := fun h => hone (by rw [hln] at h; exact List.length_eq_one_iff.1 h)
            have hne : ((ln : Int) != 1) = true := by simp; omega
            rw [← hln]
            clear hE hwv hone hrows hlm hln hln1 hb2 zz0 zz1
            go_wp2
            go_ret
            rw [HNX.out]
            exact ⟨_, rfl, .inl ⟨rfl, rfl⟩, hB2⟩
    · have hnx : nextF M k o (true, l) = some l := by unfold nextF; rw [if_neg (by rw [hn2]; exact h0), if_pos rfl]
      rw [hnx]
      have hl10 : l.length ≤ 10 := by
        unfold frB at hf
        have : picB M l = true := by simpa [hn2, h0] using hf
        have := (pic_bnd this).1
        omega
      have HN2 := hid hn2
      have hx10 : n2 ≤ 10 := by omega
      have HX0 := hid (show a2 = none → n2 = 0 from fun h => by subst h; rcases Nat.eq_zero_or_pos n2 with h | h; exact h; obtain ⟨_, _, e, _⟩ := H2 0 (by omega); cases e)
      have HNW := hid (show ∀ X : World, Below w.heap.size w X → ∀ ad, a2 = some ad → ∀ j u, (l.map (Value.int .i64))[j]? = some u → X.cell? (ad.add j) = some u from fun X hX => news_ints H2 hX)
      have HZB := hid (show ∀ X : World, Below (w.heap.size + 1) (w.alloc (.cells #[.bool true, .slice a2 n2 cap2] 47)) X → X.cell? ⟨w.heap.size, 1, none⟩ = some (.slice a2 n2 cap2) from fun X hX => (hX.cell (p := ⟨w.heap.size, 1, none⟩) (by show w.heap.size < _; simp)).trans z1)
      have hn0 : 0 < n2 := by omega
      have HN0 := hid hn0
      clear hnx hn hn2 hm2 H H2 hf ho hoo hbz hwz h0 hl10 hn0
      go_enter Tryz.func64, Tryz.ntmps64
      have HZ0 := hid z0
      have M := World.ownsRow_made (base := w.heap.size + 1) (e := 3) (size := 1) (w.alloc (.cells #[.bool true, .slice a2 n2 cap2] 47)) #[] 0 (by simp) (Nat.zero_le _) rfl
      have hbA := HB.out.alloc HB.out.size (.cells #[] 3)
      rw [World.size_alloc] at M
      go_wp2_with (at_builtin; refine Stop.of ?_)
      refine Stop.go ?_
      (refine wpList_app _ rfl (.tmp 20) (.tmp 22) 33 rfl (w.heap.size + 1) 3 (.int .i64 0) 1 8 Tryz.underlying33 li_int rfl Nat.one_pos (.slice (some ⟨w.heap.size + 1, 0, none⟩) 0 0) 0 [] rfl M a2 n2 cap2 (l.map (Value.int .i64)) rfl (by rw [List.length_map, HN2.out, Nat.mul_one]) HX0.out (HNW.out _ hbA) (ints_one _) (by rw [Nat.zero_add]; unfold maxLen; omega) (by omega) (by first | omega | (simp; omega) | simp) ?_)
      intro ca cc w5 own5 g5
      rw [Nat.zero_add, List.nil_append] at own5
      rw [Nat.zero_add]
      have hb5 := hbA.grown g5 hbA.size (fun g hg => by have := (M.lt g hg).1; omega)
      go_wp2
      go_ret
      obtain ⟨g, c, e, hg, hsp⟩ := spRow_own own5 HN2.out HN0.out
      refine ⟨.slice ca n2 cc, rfl, .inr ⟨l, g, c, rfl, by rw [HN2.out]; exact e, by omega, trivial, hsp, by have := HN2.out; have := HN0.out; omega, by rw [HN2.out]; unfold maxLen; omega⟩, hb5⟩
end Go.Proofs.YtkmjeegnijohmaaGreat

namespace Go.Proofs.YtkmjeegnijohmaaGreat
open Go.RowKit
set_option linter.unusedVariables false

def IterP (P : Program) (g : Nat) (lb : Array Value) {α : Type} (V : Nat → (Nat → Prop) → α → Value → Value → World → Prop) (xs : List α) (fp : Nat → Prop) (w0 : World) : Prop :=
  ∀ (l : Nat) (J Jx : (Nat → Prop) → List α → World → Prop) (W : World), Below w0.heap.size w0 W →
    (∀ S S' s A B, Jx S s A → (∀ k, S k → S' k) → (∀ k, S' k → S k ∨ A.heap.size ≤ k) → Keep (fun k => ¬ S' k) A B → Jx S' s B) →
    (∀ S S' s A B, J S s A → (∀ k, S k → S' k) → (∀ k, S' k → S k ∨ A.heap.size ≤ k) → Keep (fun k => ¬ S' k) A B → J S' s B) →
    (∀ S pre x v u W1, pre ++ [x] <+: xs → (∀ k, S k → W.heap.size ≤ k ∧ k < W1.heap.size) → W.heap.size ≤ W1.heap.size → J S pre W1 → V W.heap.size S x v u W1 →
      YieldAt Fence.wide 0 P l #[v, u] W1 fun e W' =>
        (W1.heap.size ≤ W'.heap.size ∧ (∀ k, fp k ∨ S k → W'.heap[k]? = W1.heap[k]?)) ∧ ((e = .returned (.bool true) ∧ J S (pre ++ [x]) W') ∨ (e = .returned (.bool false) ∧ Jx S (pre ++ [x]) W'))) →
    J (fun _ => False) [] W →
    CallsIn Fence.wide 0 P g (#[.func (.yield l) #[] #[]] ++ lb) W fun e W' => (∃ v, e = .returned v) ∧ ((∃ S, (∀ k, S k → W.heap.size ≤ k ∧ k < W'.heap.size) ∧ J S xs W') ∨ (∃ S pre, pre <+: xs ∧ Jx S pre W'))

theorem range_p {P : Program} {g : Operand} {p1 p2 : Tmp} {assign body : Code} {Q : Exit → Act → World → Prop} {a : Act} {w : World}
    {gf : Nat} {lb : Array Value} (hg : a.eval g = .func (.func gf) #[] lb) (eg : ∀ args w, (callFunc gf args).run P w = .ok (.enter gf args) w)
    {α : Type} {V : Nat → (Nat → Prop) → α → Value → Value → World → Prop} {xs : List α} {fp : Nat → Prop} {w0 : World} (hseq : IterP P gf lb V xs fp w0) (hb0 : Below w0.heap.size w0 w) (hfp : ∀ k, fp k → k < w.heap.size)
    (I : (Nat → Prop) → List α → World → Prop) (Ix : (Nat → Prop) → Code → List α → World → Prop)
    (hI : ∀ S S' s A B, I S s A → (∀ k, S k → S' k) → (∀ k, S' k → S k ∨ A.heap.size ≤ k) → (∀ k, S' k → w.heap.size + 2 ≤ k) → w.heap.size + 2 ≤ A.heap.size → Keep (fun k => k ≠ w.heap.size ∧ k ≠ w.heap.size + 1 ∧ ¬ S' k) A B → I S' s B)
    (hIx : ∀ S S' c s A B, Ix S c s A → (∀ k, S k → S' k) → (∀ k, S' k → S k ∨ A.heap.size ≤ k) → (∀ k, S' k → w.heap.size + 2 ≤ k) → w.heap.size + 2 ≤ A.heap.size → Keep (fun k => k ≠ w.heap.size ∧ k ≠ w.heap.size + 1 ∧ ¬ S' k) A B → Ix S' c s B)
    (hV : ∀ S x v u A B, V (w.heap.size + 2) S x v u A → Keep (fun k => k ≠ w.heap.size ∧ k ≠ w.heap.size + 1) A B → V (w.heap.size + 2) S x v u B)
    (h0 : ∀ W, Keep (fun k => k < w.heap.size) w W → w.heap.size + 2 ≤ W.heap.size → I (fun _ => False) [] W) (Ax : Value → Value → Act → World → Prop)
    (hAx : ∀ v u a' A B, Ax v u a' A → Keep (fun k => k ≠ w.heap.size ∧ k ≠ w.heap.size + 1) A B → Ax v u a' B)
    (hassign : ∀ (l : Nat) (S : Nat → Prop) (x : α) (v u : Value) (W : World) (K : Act → World → Prop), w.heap.size + 2 ≤ W.heap.size → V (w.heap.size + 2) S x v u W → (∀ a' W', Below W.heap.size W W' → Ax v u a' W' → K a' W') →
      assign.wpIn (Fence.wide.inRound l) 0 P (Exit.then K (fun _ _ _ => False)) { tmps := (a.tmps.setIfInBounds p1 v).setIfInBounds p2 u, defers := [] } W)
    (hbody : ∀ (l : Nat) (S : Nat → Prop) (pre : List α) (x : α) (v u : Value) (a' : Act) (W : World), pre ++ [x] <+: xs → (∀ k, S k → w.heap.size + 2 ≤ k ∧ k < W.heap.size) → I S pre W → V (w.heap.size + 2) S x v u W → Ax v u a' W → w.heap.size + 2 ≤ W.heap.size →
      (∃ o, W.heap[w.heap.size]? = some o ∧ o.isCells = false) → (∃ o, W.heap[w.heap.size + 1]? = some o ∧ o.isCells = false) →
      body.wpIn (Fence.wide.inRound l) 0 P (roundEndS (fun k => fp k ∨ k = w.heap.size ∨ k = w.heap.size + 1 ∨ S k) (I S) (Ix S) (pre ++ [x]) W) a' W)
    (hdone : ∀ (S : Nat → Prop) (W : World), w.heap.size + 2 ≤ W.heap.size → (∀ k, S k → w.heap.size + 2 ≤ k ∧ k < W.heap.size) → I S xs W → W.heap[w.heap.size]? = some (.deferred (some [])) → Q .normal { a with defers := { target := .collected w.heap.size, args := #[] } :: a.defers } W)
    (hstop : ∀ (S : Nat → Prop) (c : Code) (pre : List α) (W : World), pre <+: xs → (∀ k, S k → w.heap.size + 2 ≤ k) → Ix S c pre W → W.heap[w.heap.size]? = some (.deferred (some [])) → c.wpIn Fence.wide 0 P Q { a with defers := { target := .collected w.heap.size, args := #[] } :: a.defers } W) :
    (Code.rangeFunc g #[p1, p2] assign body).wpIn Fence.wide 0 P Q a w := by
  refine wpIn_rangeFunc ?_
  intro fn hfn
  obtain ⟨rec, hrec⟩ : ∃ rec : LoopState → Option Code → Loop, rec = fun st pe => { state := st, pending := pe, fn, tmps := a.tmps, params := #[p1, p2], assign, body, defers := w.heap.size } := ⟨_, rfl⟩
  obtain ⟨W1, hW1⟩ : ∃ W1, (w.alloc (.deferred (some []))).alloc (.loop (rec .ready none)) = W1 := ⟨_, rfl⟩
  have hsz1 : W1.heap.size = w.heap.size + 2 := by rw [← hW1]; simp
  have hL1 : W1.heap[w.heap.size + 1]? = some (.loop (rec .ready none)) := by
    rw [← hW1]; have := World.alloc_heap_new (w.alloc (.deferred (some []))) (.loop (rec .ready none)); rwa [World.size_alloc] at this
  have hK1 : W1.heap[w.heap.size]? = some (.deferred (some [])) := by
    rw [← hW1]; exact (Below.heap_alloc _ _ _ (by simp)).trans (World.alloc_heap_new w _)
  have hbw : Below w.heap.size w W1 := by rw [← hW1]; exact ((Below.refl _ w).alloc (Nat.le_refl _) _).alloc (by simp) _
  refine ⟨w.heap.size + 1, [{ target := .collected w.heap.size, args := #[] }], W1, { target := .fn (.func gf) lb, args := #[.func (.yield (w.heap.size + 1)) #[] #[]] }, W1, gf,
    #[.func (.yield (w.heap.size + 1)) #[] #[]] ++ lb, W1, ?_, ?_, ?_, ?_, fun h => by simp [Fence.wide] at h, ?_⟩
  · rw [← hW1, hrec]; exact run_enterLoop_outer _ _ _ _ _
  · simp only [resolve, hg]
    simp [go_sem]
  · intro f' hf'; exact trivial
  · simp [invoke, go_sem, eg]
  · refine (hseq (w.heap.size + 1)
      (fun S pre W => (I S pre W ∧ w.heap.size + 2 ≤ W.heap.size ∧ ∀ k, S k → w.heap.size + 2 ≤ k) ∧ W.heap[w.heap.size + 1]? = some (.loop (rec .ready none)) ∧ W.heap[w.heap.size]? = some (.deferred (some [])))
      (fun S pre W => ∃ c, (Ix S c pre W ∧ w.heap.size + 2 ≤ W.heap.size ∧ ∀ k, S k → w.heap.size + 2 ≤ k) ∧ W.heap[w.heap.size + 1]? = some (.loop (rec .done (some c))) ∧ W.heap[w.heap.size]? = some (.deferred (some [])))
      W1 (chain hb0 hbw) ?_ ?_ ?_ ?_).mono ?_
    · rintro S S' s A B ⟨c, ⟨hi, hsA, hSl⟩, hl, hk⟩ hSS hSn hAB
      have hS' : ∀ k, S' k → w.heap.size + 2 ≤ k := fun k h => by
        rcases hSn k h with h1 | h1
        · exact hSl k h1
        · omega
      exact ⟨c, ⟨hIx S S' c s A B hi hSS hSn hS' hsA (hAB.mono fun k hk => hk.2.2), Nat.le_trans hsA hAB.size, hS'⟩,
        (hAB.block _ (Array.getElem?_eq_some_iff.1 hl).1 (fun h => by have := hS' _ h; omega)).trans hl, (hAB.block _ (Array.getElem?_eq_some_iff.1 hk).1 (fun h => by have := hS' _ h; omega)).trans hk⟩
    · rintro S S' s A B ⟨⟨hi, hsA, hSl⟩, hl, hk⟩ hSS hSn hAB
      have hS' : ∀ k, S' k → w.heap.size + 2 ≤ k := fun k h => by
        rcases hSn k h with h1 | h1
        · exact hSl k h1
        · omega
      exact ⟨⟨hI S S' s A B hi hSS hSn hS' hsA (hAB.mono fun k hk => hk.2.2), Nat.le_trans hsA hAB.size, hS'⟩,
        (hAB.block _ (Array.getElem?_eq_some_iff.1 hl).1 (fun h => by have := hS' _ h; omega)).trans hl, (hAB.block _ (Array.getElem?_eq_some_iff.1 hk).1 (fun h => by have := hS' _ h; omega)).trans hk⟩
    · rintro S pre x v u W hpre hSb hsz ⟨⟨hi, hsW, hSl⟩, hl, hk⟩ hv
      rw [hsz1] at hv hSb
      have hlt : w.heap.size + 1 < W.heap.size := (Array.getElem?_eq_some_iff.1 hl).1
      have hy := run_yield (P := P) (args := #[v, u]) hl (by rw [hrec]; simp)
      rw [hrec] at hy
      have hy' : (Instr.yield (w.heap.size + 1) #[v, u]).run P W = .ok (.round (w.heap.size + 1) fn ((a.tmps.setIfInBounds p1 v).setIfInBounds p2 u) assign body) W := by
        simpa using hy
      refine ⟨fn, _, assign, body, hy', roundIn_of_wpIn hfn ?_⟩
      refine hassign _ S x v u W _ hsW hv ?_
      intro a' W' hbW' hax
      have hlW' : W'.heap[w.heap.size + 1]? = some (.loop (rec .ready none)) := (hbW'.block _ hlt).trans hl
      have hkW' : W'.heap[w.heap.size]? = some (.deferred (some [])) := (hbW'.block _ (by omega)).trans hk
      have hltW' : w.heap.size + 1 < W'.heap.size := by have := hbW'.size; omega
      refine ⟨_, run_beginRound hlW' (by rw [hrec]), ?_⟩
      have hl2 : (W'.putObj (w.heap.size + 1) (.loop { rec .ready none with state := .busy })).heap[w.heap.size + 1]? = some (.loop { rec .ready none with state := .busy }) := World.putObj_heap_same hltW'
      have hkp := Keep.put W' (w.heap.size + 1) (.loop { rec .ready none with state := .busy })
      have hkp2 : Keep (fun k => k ≠ w.heap.size ∧ k ≠ w.heap.size + 1) W' _ := hkp.mono fun k hk => hk.2
      have hIW' := hI S S pre _ _ (hI S S pre _ _ hi (fun _ h => h) (fun _ h => .inl h) hSl hsW (Keep.of_below hbW')) (fun _ h => h) (fun _ h => .inl h) hSl (Nat.le_trans hsW hbW'.size) (hkp2.mono fun k hk => ⟨hk.1, hk.2.1⟩)
      refine wpIn_mono (hbody _ S pre x v u a' _ hpre (fun k h => ⟨hSl k h, by have := (hSb k h).2; exact Nat.lt_of_lt_of_le this (Nat.le_trans hbW'.size hkp.size)⟩) hIW' (hV S x v u _ _ (hV S x v u _ _ hv (Keep.of_below hbW')) hkp2) (hAx _ _ _ _ _ hax hkp2) (Nat.le_trans (Nat.le_trans hsW hbW'.size) hkp.size) ⟨_, (World.putObj_heap_other (by omega)).trans hkW', rfl⟩ ⟨_, hl2, rfl⟩) ?_
      have fin : ∀ (jump : Option Code) (W3 : World), (∀ k, (fp k ∨ k = w.heap.size ∨ k = w.heap.size + 1 ∨ S k) → W3.heap[k]? = (W'.putObj (w.heap.size + 1) (.loop { rec .ready none with state := .busy })).heap[k]?) →
          (Instr.endRound (w.heap.size + 1) jump).run P W3 = .ok (.bool jump.isNone) (W3.putObj (w.heap.size + 1) (.loop (rec (if jump.isNone then .ready else .done) jump))) ∧
          W3.heap[w.heap.size + 1]? = some (.loop { rec .ready none with state := .busy }) ∧
          (W3.putObj (w.heap.size + 1) (.loop (rec (if jump.isNone then .ready else .done) jump))).heap[w.heap.size + 1]? = some (.loop (rec (if jump.isNone then .ready else .done) jump)) ∧
          (W3.putObj (w.heap.size + 1) (.loop (rec (if jump.isNone then .ready else .done) jump))).heap[w.heap.size]? = some (.deferred (some [])) := fun jump W3 hk3 => by
        have hl3 := (hk3 (w.heap.size + 1) (by simp)).trans hl2
        have := run_endRound (P := P) jump hl3
        rw [hrec] at this ⊢
        refine ⟨this, by rw [hrec] at hl3; exact hl3, World.putObj_heap_same (Array.getElem?_eq_some_iff.1 hl3).1, (World.putObj_heap_other (by omega)).trans ((hk3 w.heap.size (by simp)).trans ((World.putObj_heap_other (by omega)).trans hkW'))⟩
      rintro e a3 W3 hp
      have keepP : ∀ (o : Obj), Keep (fun k => k ≠ w.heap.size ∧ k ≠ w.heap.size + 1) W3 (W3.putObj (w.heap.size + 1) o) := fun o => (Keep.put W3 (w.heap.size + 1) o).mono fun k hk => hk.2
      have both : ∀ (o : Obj), W'.heap.size ≤ W3.heap.size → (∀ k, (fp k ∨ k = w.heap.size ∨ k = w.heap.size + 1 ∨ S k) → W3.heap[k]? = (W'.putObj (w.heap.size + 1) (.loop { rec .ready none with state := .busy })).heap[k]?) →
          W.heap.size ≤ (W3.putObj (w.heap.size + 1) o).heap.size ∧ ∀ k, fp k ∨ S k → (W3.putObj (w.heap.size + 1) o).heap[k]? = W.heap[k]? := fun o hs3 hk3 => by
        refine ⟨Nat.le_trans (Nat.le_trans hbW'.size hs3) (keepP o).size, fun k hk => ?_⟩
        have hne : k ≠ w.heap.size + 1 := by
          rcases hk with hk | hk
          · have := hfp k hk; omega
          · have := hSl k hk; omega
        have hltk : k < W.heap.size := by
          rcases hk with hk | hk
          · have := hfp k hk; omega
          · exact (hSb k hk).2
        exact (World.putObj_heap_other hne).trans ((hk3 k (by rcases hk with hk | hk <;> simp [hk])).trans ((World.putObj_heap_other hne).trans (hbW'.block k hltk)))
      cases e with
      | normal =>
        obtain ⟨hs3, hk3, hi3⟩ := hp
        obtain ⟨hr, hl3, hl4, hk4⟩ := fin none W3 hk3
        have hs3' : W.heap.size ≤ W3.heap.size := Nat.le_trans (Nat.le_trans hbW'.size hkp.size) hs3
        exact ⟨_, _, hr, both _ (Nat.le_trans hkp.size hs3) hk3, .inl ⟨rfl, ⟨hI S S _ _ _ hi3 (fun _ h => h) (fun _ h => .inl h) hSl (Nat.le_trans hsW hs3') ((keepP _).mono fun k hk => ⟨hk.1, hk.2.1⟩), Nat.le_trans (Nat.le_trans hsW hs3') (keepP _).size, hSl⟩, hl4, hk4⟩⟩
      | ret =>
        obtain ⟨hs3, hk3, hi3⟩ := hp
        obtain ⟨hr, hl3, hl4, hk4⟩ := fin (some .ret) W3 hk3
        have hs3' : W.heap.size ≤ W3.heap.size := Nat.le_trans (Nat.le_trans hbW'.size hkp.size) hs3
        exact ⟨_, _, hr, both _ (Nat.le_trans hkp.size hs3) hk3, .inr ⟨rfl, .ret, ⟨hIx S S _ _ _ _ hi3 (fun _ h => h) (fun _ h => .inl h) hSl (Nat.le_trans hsW hs3') ((keepP _).mono fun k hk => ⟨hk.1, hk.2.1⟩), Nat.le_trans (Nat.le_trans hsW hs3') (keepP _).size, hSl⟩, hl4, hk4⟩⟩
      | exit id =>
        obtain ⟨hs3, hk3, hi3⟩ := hp
        obtain ⟨hr, hl3, hl4, hk4⟩ := fin (some (.exit id)) W3 hk3
        have hs3' : W.heap.size ≤ W3.heap.size := Nat.le_trans (Nat.le_trans hbW'.size hkp.size) hs3
        exact ⟨_, _, hr, both _ (Nat.le_trans hkp.size hs3) hk3, .inr ⟨rfl, .exit id, ⟨hIx S S _ _ _ _ hi3 (fun _ h => h) (fun _ h => .inl h) hSl (Nat.le_trans hsW hs3') ((keepP _).mono fun k hk => ⟨hk.1, hk.2.1⟩), Nat.le_trans (Nat.le_trans hsW hs3') (keepP _).size, hSl⟩, hl4, hk4⟩⟩
      | goto t =>
        obtain ⟨hs3, hk3, hi3⟩ := hp
        obtain ⟨hr, hl3, hl4, hk4⟩ := fin (some (.goto t)) W3 hk3
        have hs3' : W.heap.size ≤ W3.heap.size := Nat.le_trans (Nat.le_trans hbW'.size hkp.size) hs3
        exact ⟨_, _, hr, both _ (Nat.le_trans hkp.size hs3) hk3, .inr ⟨rfl, .goto t, ⟨hIx S S _ _ _ _ hi3 (fun _ h => h) (fun _ h => .inl h) hSl (Nat.le_trans hsW hs3') ((keepP _).mono fun k hk => ⟨hk.1, hk.2.1⟩), Nat.le_trans (Nat.le_trans hsW hs3') (keepP _).size, hSl⟩, hl4, hk4⟩⟩
      | panic ch => exact hp.elim
      | outgrown => exact hp.elim
    · exact ⟨⟨h0 W1 (Keep.of_below hbw |>.mono fun k _ => trivial) (by omega), by omega, fun k h => h.elim⟩, hL1, hK1⟩
    · rintro e W2 ⟨⟨v, rfl⟩, (⟨S, hSw, ⟨hi, hs2, hSl⟩, hl, hk⟩ | ⟨S, pre, hSp, c, ⟨hi, hs2, hSl⟩, hl, hk⟩)⟩
      · refine ⟨none, _, by have := run_endLoop (P := P) hl (by rw [hrec]; simp); rw [hrec] at this; exact this, hdone S _ (Nat.le_trans hs2 (Keep.put W2 _ _).size) (fun k h => ⟨hSl k h, Nat.lt_of_lt_of_le (hSw k h).2 (Keep.put W2 _ _).size⟩) (hI S S _ _ _ hi (fun _ h => h) (fun _ h => .inl h) hSl hs2 ((Keep.put W2 _ _).mono fun k hk => hk.2.1)) ((World.putObj_heap_other (by omega)).trans hk)⟩
      · refine ⟨some c, _, by have := run_endLoop (P := P) hl (by rw [hrec]; simp); rw [hrec] at this; exact this, hstop S c pre _ hSp hSl (hIx S S _ _ _ _ hi (fun _ h => h) (fun _ h => .inl h) hSl hs2 ((Keep.put W2 _ _).mono fun k hk => hk.2.1)) ((World.putObj_heap_other (by omega)).trans hk)⟩
end Go.Proofs.YtkmjeegnijohmaaGreat

namespace Go.Proofs.YtkmjeegnijohmaaGreat
open Go.RowKit
set_option linter.unusedVariables false

theorem OptV.mono {w : World} {lo lo' : Nat} {S S' : Nat → Prop} {o : Option (List Int)} {v : Value} (h : OptV w lo S o v) (hl : lo' ≤ lo) (hS : ∀ b, lo ≤ b → S b → S' b) : OptV w lo' S' o v := by
  rcases h with h | ⟨x, b, cap, h1, h2, h3, h4, h5⟩
  · exact .inl h
  · exact .inr ⟨x, b, cap, h1, h2, Nat.le_trans hl h3, hS b h3 h4, h5⟩
theorem clone_opt {w : World} {lo : Nat} {S : Nat → Prop} {o : Option (List Int)} {v : Value} (h : OptV w lo S o v) (hm : ∀ x, o = some x → x.length ≤ 1000) :
    Calls Tryz.prog 63 #[v] w fun e w' => ∃ u, e = .returned u ∧ OptV w' w.heap.size (fun _ => True) o u ∧ Below w.heap.size w w' := by
  rcases h with ⟨rfl, rfl⟩ | ⟨x, b, cap, rfl, rfl, h1, h2, h3, h4, h5⟩
  · have heq := fun (w : World) (a : Option Addr) (n c : Nat) => Lib.run_eql_slice_nil (P := Tryz.prog) w 33 3 a n c 0 0 Tryz.underlying33
    clear hm
    go_enter Tryz.func63, Tryz.ntmps63
    go_wp2
    go_ret
    exact ⟨_, rfl, .inl ⟨rfl, rfl⟩, Below.refl _ _⟩
  · have hx := hm x rfl
    refine (clone_c w (some ⟨b, 0, none⟩) x.length cap x rfl (by omega) h3.ints).mono ?_
    rintro e w' ⟨u, rfl, ho, hb⟩
    obtain ⟨g, c, rfl, hg, hs⟩ := spRow_own ho rfl (by omega)
    exact ⟨_, rfl, .inr ⟨x, g, c, rfl, rfl, hg, trivial, hs, h4, h5⟩, hb⟩

theorem range_pre {m n : Nat} (h : m ≤ n) : List.range m <+: List.range n := by
  obtain ⟨d, rfl⟩ : ∃ d, n = m + d := ⟨n - m, by omega⟩
  rw [List.range_add]
  exact List.prefix_append _ _
def DecV (M : Mask) (k : Int) (fs : List Frm) (lo : Nat) (S : Nat → Prop) (j : Nat) (v u : Value) (W : World) : Prop :=
  v = .int .i64 j ∧ OptV W lo (fun b => ¬ S b) (decAt M k fs (j + 1)) u
structure DecI (w0 W : World) (fp : Nat → Prop) (J : (Nat → Prop) → List Nat → World → Prop) (M : Mask) (k : Int) (fs : List Frm) (t : Nat) (S : Nat → Prop) (nv : Value) (X : World) : Prop where
  j : J S (List.range t) X
  s : ∀ q, S q → W.heap.size ≤ q ∧ q < X.heap.size
  f : ∀ q, fp q → X.heap[q]? = w0.heap[q]?
  z : W.heap.size ≤ X.heap.size
  o : OptV X W.heap.size S (decAt M k fs t) nv

theorem decAt_ok {M : Mask} {k : Int} {fs : List Frm} (hv : ∀ f ∈ fs, frB M f = true) : ∀ t, okO M (decAt M k fs t)
  | 0 => fun x h => by cases h
  | t + 1 => by
    unfold decAt
    refine nextF_ok ?_
    rcases Nat.lt_or_ge t fs.length with h | h
    · rw [List.getElem?_eq_getElem h]; exact hv _ (List.getElem_mem h)
    · rw [List.getElem?_eq_none h]; unfold frB; simp

set_option maxRecDepth 100000 in
set_option maxHeartbeats 1000000 in
theorem dec_iter (w0 : World) (fp : Nat → Prop) (fb mb kb : Nat) (a a2 : Option Addr) (n cap n2 cap2 : Nat) (M : Mask) (fs : List Frm) (k : Int) (hn : M.length = n) (hM : okM M = true) (hn2 : fs.length = n2) (hm2 : n2 ≤ 1000) (hv : ∀ f ∈ fs, frB M f = true)
    (hfp : ∀ q, fp q → q < w0.heap.size)
    (hR : ∀ X : World, w0.heap.size ≤ X.heap.size → (∀ q, fp q → X.heap[q]? = w0.heap[q]?) → (RowsAt X a M ∧ FramesAt X a2 fs) ∧ X.cell? ⟨fb, 0, none⟩ = some (.slice a2 n2 cap2) ∧ X.cell? ⟨mb, 0, none⟩ = some (.slice a n cap) ∧ X.cell? ⟨kb, 0, none⟩ = some (.int .i64 k)) :
    IterP Tryz.prog 61 #[.pointer (some ⟨fb, 0, none⟩), .pointer (some ⟨mb, 0, none⟩), .pointer (some ⟨kb, 0, none⟩)] (DecV M k fs) (List.range n2) fp w0 := by
  intro l J Jx W hb hJx hJ hY h0
  have HJ := hid hJ
  have HY := hid hY
  have H0 := hid h0
  have HR := hid hR
  have HFP := hid hfp
  have HB := hid hb
  have HN2 := hid hn2
  have HOK := hid (fun t => decAt_ok (M := M) (k := k) (fs := fs) hv t)
  have HVF := hid (fun (t : Nat) (ht : t < fs.length) => hv _ (List.getElem_mem ht))
  have HNX := hid (fun (X : World) (ra : Option Addr) (rn rc : Nat) (kf : Bool) (x : List Int) (o : Option (List Int)) (nv : Value) (S : Nat → Prop) (hrn : x.length = rn) (hrm : rn ≤ maxLen) (hX : RowsAt X a M) (hri : IntsAt X ra x) (hf : frB M (kf, x) = true) (ho : OptV X W.heap.size S o nv) (hoo : okO M o) => next_c X a ra n cap rn rc M kf x o nv W.heap.size S k hn hM hrn hrm hX hri hf ho hoo)
  have hc10 : colsM M ≤ 10 := (okM_ok hM).2.2.2.2
  have HC10 := hid hc10
  obtain ⟨_, r2, r3, r4⟩ := hR W hb.size (fun q hq => hb.block q (hfp q hq))
  clear hJ hJx hY h0 hR hfp hb hn hM hn2 hv hc10
  refine callsIn_of_wp Tryz.func61 rfl trivial ?_ rfl
  simp only [Tryz.ntmps61, List.size_toArray, List.length_cons, List.length_nil, Nat.reduceAdd, Nat.reduceSub, Array.replicate_succ, Array.replicate_zero, List.push_toArray, List.append_toArray, List.nil_append, List.cons_append]
  gi_wp2
  clear r2 r3 r4
  gi_loopw [5, 10] (fun nv i wr => ∃ (t : Nat) (S : Nat → Prop), t ≤ n2 ∧ i = .int .i64 t ∧ DecI w0 W fp J M k fs t S nv wr) (fun _ i _ => n2 - (intOf i).toNat)
  case atStart => exact ⟨0, fun _ => False, Nat.zero_le _, rfl, H0.out, fun _ h => h.elim, fun q hq => HB.out.block q (HFP.out q hq), Nat.le_refl _, .inl ⟨rfl, rfl⟩⟩
  case round =>
    obtain ⟨t, S, ht, rfl, hI⟩ := hrel
    have hwX : w0.heap.size ≤ wr.heap.size := Nat.le_trans HB.out.size hI.z
    obtain ⟨⟨rR, rF⟩, r2, r3, r4⟩ := HR.out wr hwX hI.f
    by_cases hlt : t < n2
    · have hkl : t < fs.length := by rw [HN2.out]; exact hlt
      obtain ⟨pb, po, ya, yn, yc, rfl, hpb, hp0, hp1, hyn, hym, hyi⟩ := rF t hkl
      have hvf := HVF.out t hkl
      have hda : decAt M k fs (t + 1) = nextF M k (decAt M k fs t) fs[t] := by
        show nextF M k (decAt M k fs t) (fs[t]?.getD (false, [])) = _
        rw [List.getElem?_eq_getElem hkl]; rfl
      obtain ⟨⟨kf, x⟩, hr⟩ : ∃ r, r = fs[t]'hkl := ⟨_, rfl⟩
      rw [← hr] at hp0 hyn hyi hvf hda
      simp only [] at hp0 hyn hyi
      obtain ⟨o1, ho1⟩ : ∃ o, o = Obj.cells #[.bool kf, .slice ya yn yc] 47 (0, 0) := ⟨_, rfl⟩
      have hba : Below wr.heap.size wr (wr.alloc o1) := (Below.refl _ _).alloc (Nat.le_refl _) _
      have hfa : ∀ q, fp q → (wr.alloc o1).heap[q]? = w0.heap[q]? := fun q hq => (hba.block q (Nat.lt_of_lt_of_le (HFP.out q hq) hwX)).trans (hI.f q hq)
      obtain ⟨⟨sR, sF⟩, s2, s3, s4⟩ := HR.out (wr.alloc o1) (Nat.le_trans hwX hba.size) hfa
      have HNX2 := hid (HNX.out (wr.alloc o1) ya yn yc kf x _ _ _ hyn hym sR (hyi.below hba) hvf (hI.o.below hba) (HOK.out t))
      rw [← hda] at HNX2
      rw [ho1] at HNX2 s3 s4 hba
      have hti : (t : Int) < (n2 : Int) := by omega
      have hti0 : (0 : Int) ≤ (t : Int) := by omega
      have HBA := hid hba
      have HI := hid hI
      clear hwX rR rF r2 r3 r4 sR sF s2 hyn hym hyi hvf hda hr hfa ho1 hba hI hkl
      gi_wp2_with first
        | (refine ⟨trivial, rfl, ?_⟩; gi_at_call 62; refine (callsIn_wide.2 HNX2.out).mono ?_; rintro e w2 ⟨v2, rfl, ho2, hb2⟩; refine Stop.of ?_)
      refine Stop.go ?_
      have hB2 := chain HBA.out hb2
      have hok := HOK.out (t + 1)
      have HCL := hid (clone_opt (ho2.keep (S' := fun _ => True) (K := fun _ => True) (Keep.refl _ _) (fun _ _ _ _ => ⟨trivial, trivial⟩)) (fun x hx => by have := (pic_bnd (hok x hx)).1; have := HC10.out; omega))
      have HO2 := hid ho2
      have HB2 := hid hB2
      clear ho2 hb2 hB2 hok s3 s4 hp0 hp1
      gi_wp2_with first
        | (refine ⟨trivial, rfl, ?_⟩; gi_at_call 63; refine (callsIn_wide.2 HCL.out).mono ?_; rintro e w3 ⟨u3, rfl, ho3, hb3⟩; refine Stop.of ?_)
      refine Stop.go ?_
      obtain ⟨S', hS'⟩ : ∃ S' : Nat → Prop, S' = fun q => S q ∨ v2.ownBlock = some q := ⟨_, rfl⟩
      have hB3 := chain HB2.out hb3
      have hvb : ∀ q, v2.ownBlock = some q → wr.heap.size ≤ q ∧ q < w2.heap.size := fun q hq => by
        rcases HO2.out with ⟨_, rfl⟩ | ⟨y, b, c, _, rfl, h1, _, h3, _⟩
        · simp [Value.ownBlock] at hq
        · obtain rfl : b = q := by simpa [Value.ownBlock] using hq
          exact ⟨Nat.le_trans (HBA.out.size) (by simpa using h1), h3.lt⟩
      have hSS : ∀ q, S q → S' q := fun q h => by rw [hS']; exact .inl h
      have hSN : ∀ q, S' q → S q ∨ wr.heap.size ≤ q := fun q h => by
        rw [hS'] at h
        rcases h with h | h
        · exact .inl h
        · exact .inr (hvb q h).1
      have hSb : ∀ q, S' q → W.heap.size ≤ q ∧ q < w2.heap.size := fun q h => by
        rw [hS'] at h
        rcases h with h | h
        · have h1 := HI.out.s q h; have := HB2.out.size; exact ⟨h1.1, by omega⟩
        · have h1 := hvb q h; have := HI.out.z; exact ⟨by omega, h1.2⟩
      have hJ3 : J S' (List.range t) w3 := HJ.out _ _ _ _ _ HI.out.j hSS hSN (Keep.of_below hB3)
      have hpre : List.range t ++ [t] <+: List.range n2 := by
        rw [← List.range_succ]
        exact range_pre (by omega)
      have hW2 : W.heap.size ≤ w2.heap.size := Nat.le_trans HI.out.z HB2.out.size
      have hV3 : DecV M k fs W.heap.size S' t (.int .i64 t) u3 w3 := ⟨rfl, ho3.mono hW2 (fun b h1 _ h => by have := (hSb b h).2; omega)⟩
      have hyk := HY.out S' (List.range t) t (.int .i64 t) u3 w3 hpre (fun q hq => ⟨(hSb q hq).1, Nat.lt_of_lt_of_le (hSb q hq).2 hb3.size⟩) (Nat.le_trans hW2 hb3.size) hJ3 hV3
      have HSB := hid hSb
      have HSS := hid hSS
      have HPRE := hid hpre
      have HB3 := hid hB3
      have HB23 := hid hb3
      have HVS := hid (show ∀ q, v2.ownBlock = some q → S' q from fun q h => by rw [hS']; exact .inr h)
      have HW2 := hid hW2
      clear hS' hvb hSS hSN hSb hJ3 hpre hV3 ho3 hb3 hB3 hW2
      obtain ⟨fn, tmps, assign, body, hy, hR⟩ := hyk
      gi_wp2
      refine ⟨rfl, hR.mono ?_⟩
      clear hR hy
      rintro e W3 ⟨⟨hs3, hk3⟩, ⟨rfl, hJ3⟩ | ⟨rfl, hJx⟩⟩
      · have hw3W : w2.heap.size ≤ W3.heap.size := Nat.le_trans HB23.out.size hs3
        have hIn : DecI w0 W fp J M k fs (t + 1) S' v2 W3 := by
          refine ⟨by rw [List.range_succ]; exact hJ3, fun q hq => ⟨(HSB.out q hq).1, Nat.lt_of_lt_of_le (HSB.out q hq).2 hw3W⟩, fun q hq => ?_, Nat.le_trans HW2.out hw3W, ?_⟩
          · refine (hk3 q (.inl hq)).trans ((HB3.out.block q ?_).trans (HI.out.f q hq))
            have := HFP.out q hq
            have := HB.out.size
            have := HI.out.z
            omega
          · rcases HO2.out with h | ⟨y, b, c, h1, rfl, h3, h4, h5, h6⟩
            · exact .inl h
            · have hbb : S' b := HVS.out b rfl
              exact .inr ⟨y, b, c, h1, rfl, (HSB.out b hbb).1, hbb, h5.keep ((hk3 b (.inr hbb)).trans (HB23.out.block b h5.lt)), h6⟩
        have HIN := hid hIn
        clear hIn hJ3 hk3
        gi_wp2
        refine ⟨⟨t + 1, S', by omega, by go_num, HIN.out⟩, by simp [intOf]; omega⟩
      · gi_wp2
        refine bodyPost_ret (results_none rfl _ _ _) rfl ?_
        exact ⟨⟨_, rfl⟩, .inr ⟨S', _, HPRE.out, hJx⟩⟩
    · obtain rfl : n2 = t := by omega
      have HI := hid hI
      have hlt' : decide ((n2 : Int) < (n2 : Int)) = false := by simp
      clear hI rR rF r2 r3 r4
      gi_wp2
      refine bodyPost_end (results_none rfl _ _ _) rfl ?_
      exact ⟨⟨_, rfl⟩, .inl ⟨S, HI.out.s, HI.out.j⟩⟩
end Go.Proofs.YtkmjeegnijohmaaGreat

namespace Go.Proofs.YtkmjeegnijohmaaGreat
open Go.RowKit
set_option linter.unusedVariables false
attribute [local go_sem] Oper.semAt_some

theorem equalI_c (w : World) (a a2 : Option Addr) (n cap n2 cap2 : Nat) (l l2 : List Int) (hn : l.length = n) (hn2 : l2.length = n2) (hm : n ≤ maxLen) (hm2 : n2 ≤ maxLen) (H : IntsAt w a l) (H2 : IntsAt w a2 l2) :
    Calls Tryz.prog 56 #[.slice a n cap, .slice a2 n2 cap2] w fun e w' => e = .returned (.bool (decide (l = l2))) ∧ ∃ k, w' = w.drewN k := by
  have HN := hid hn
  have HN2 := hid hn2
  have HH := hid H
  have HH2 := hid H2
  clear hn hn2 H H2
  unfold maxLen at hm hm2
  by_cases hl : n = n2
  · have hd : ((n : Int) != (n2 : Int)) = false := by simp [hl]
    have HL := hid hl
    clear hl
    go_enter Tryz.func56, Tryz.ntmps56
    go_wp2
    go_loopw [13] (fun i wr => ∃ k : Nat, k ≤ n ∧ i = .int .i64 k ∧ (∃ q, wr = w.drewN q) ∧ ∀ j (hj : j < l.length) (hj2 : j < l2.length), j < k → l[j] = l2[j]) (fun i _ => n - (intOf i).toNat)
    case atStart => exact ⟨0, Nat.zero_le _, rfl, ⟨0, rfl⟩, fun i _ _ h => by omega⟩
    case round =>
      obtain ⟨k, hk, rfl, ⟨q, rfl⟩, hno⟩ := hrel
      have HNO := hid hno
      clear hno
      by_cases hlt : k < n
      · have hkl : k < l.length := by rw [HN.out]; exact hlt
        have hkl2 : k < l2.length := by rw [HN2.out, ← HL.out]; exact hlt
        obtain ⟨b, off, rfl, hbs, hc⟩ := HH.out k hkl
        obtain ⟨b2, off2, rfl, hbs2, hc2⟩ := HH2.out k hkl2
        have hg : l[k]?.getD 0 = l[k] := by rw [List.getElem?_eq_getElem hkl]; rfl
        have hg2 : l2[k]?.getD 0 = l2[k] := by rw [List.getElem?_eq_getElem hkl2]; rfl
        rw [hg] at hc
        rw [hg2] at hc2
        have hlt2 : k < n2 := by have := HL.out; omega
        have HKL := hid hkl
        have HKL2 := hid hkl2
        clear hg hg2
        by_cases he : l[k] = l2[k]
        · have hb : (l[k] != l2[k]) = false := by simp [he]
          have HE := hid he
          clear he
          go_wp2
          go_quiet (fail)
          go_wp2
          refine ⟨⟨k + 1, by omega, by go_num, ⟨_, rfl⟩, fun j hj hj2 hjk => ?_⟩, by simp [intOf]; omega⟩
          by_cases e : j = k
          · subst e; exact HE.out
          · exact HNO.out j hj hj2 (by omega)
        · have hb : (l[k] != l2[k]) = true := by simp [he]
          have HE := hid he
          clear he
          go_wp2
          go_quiet (fail)
          go_wp2
          go_ret
          refine ⟨ret_bool ?_, q + nq, drewN_add _ _ _⟩
          symm
          rw [decide_eq_false_iff_not]
          rintro rfl
          exact HE.out rfl
      · go_wp2
        go_ret
        refine ⟨ret_bool ?_, _, rfl⟩
        symm
        rw [decide_eq_true_iff]
        have h1 := HN.out
        have h2 := HN2.out
        have h3 := HL.out
        exact List.ext_getElem (by omega) fun i g1 g2 => HNO.out i g1 g2 (by omega)
  · have hd : ((n : Int) != (n2 : Int)) = true := by simp; omega
    have HL := hid hl
    clear hl
    go_enter Tryz.func56, Tryz.ntmps56
    go_wp2
    go_ret
    refine ⟨ret_bool ?_, 0, rfl⟩
    symm
    rw [decide_eq_false_iff_not]
    rintro rfl
    exact HL.out (HN.out.symm.trans HN2.out)

theorem box_cell {W : World} {rb i : Nat} {T : TypeId} {c : Bool} {u : Value} (h : Boxed W rb T (.bool c)) (hc : W.cell? ⟨rb, i, none⟩ = some u) : ∃ c', u = .bool c' := by
  unfold Boxed at h
  simp only [World.cell?, h] at hc
  match i, hc with
  | 0, hc => simp at hc; exact ⟨c, hc.symm⟩
  | i + 1, hc => simp at hc
theorem FramesAt.ex {W W' : World} {a : Option Addr} {fs : List Frm} {rb : Nat} {T : TypeId} {c : Bool} (h : FramesAt W a fs) (hb : Boxed W rb T (.bool c)) (hk : ∀ q, q < W.heap.size → q ≠ rb → W'.heap[q]? = W.heap[q]?) : FramesAt W' a fs := by
  intro j hj
  obtain ⟨b, off, ra, n, cap, e, hlt, h0, h1, hn, hm, hi⟩ := h j hj
  have hne : b ≠ rb := fun e => by subst e; obtain ⟨c', h⟩ := box_cell hb h1; cases h
  refine ⟨b, off, ra, n, cap, e, lt_blk hlt (hk b hlt hne), cell_blk h0 (hk b hlt hne), cell_blk h1 (hk b hlt hne), hn, hm, fun i hi' => ?_⟩
  obtain ⟨b2, off2, e2, hlt2, hc⟩ := hi i hi'
  have hne2 : b2 ≠ rb := fun e => by subst e; obtain ⟨c', h⟩ := box_cell hb hc; cases h
  exact ⟨b2, off2, e2, lt_blk hlt2 (hk b2 hlt2 hne2), cell_blk hc (hk b2 hlt2 hne2)⟩
theorem DecV.keep {M : Mask} {k : Int} {fs : List Frm} {lo : Nat} {S : Nat → Prop} {j : Nat} {v u : Value} {A B : World} {T : Nat → Prop} (h : DecV M k fs lo S j v u A) (hk : Keep T A B) (hT : ∀ q, lo ≤ q → T q) : DecV M k fs lo S j v u B :=
  ⟨h.1, h.2.keep hk fun b h1 _ h2 => ⟨hT b h1, h2⟩⟩

theorem decoded_c (w : World) (a a2 : Option Addr) (n cap n2 cap2 : Nat) (k : Int) :
    Calls Tryz.prog 40 #[.slice a n cap, .slice a2 n2 cap2, .int .i64 k] w fun e w' => e = .returned (.func (.func 61) #[] #[.pointer (some ⟨w.heap.size + 1, 0, none⟩), .pointer (some ⟨w.heap.size, 0, none⟩), .pointer (some ⟨w.heap.size + 2, 0, none⟩)]) ∧
      w' = ((w.alloc (.cells #[.slice a n cap] 23)).alloc (.cells #[.slice a2 n2 cap2] 37)).alloc (.cells #[.int .i64 k] 3) := by
  have hmf : ∀ (fn : Fn) (first cap : Array Value) (w : World), (Instr.makeFunc fn first cap).run Tryz.prog w = .ok (.func fn first cap) w := fun _ _ _ _ => rfl
  go_enter Tryz.func40, Tryz.ntmps40
  go_wp2
  go_ret
  exact ⟨by simp, rfl⟩

set_option maxRecDepth 100000 in
set_option maxHeartbeats 1000000 in
theorem right_c (w : World) (a a2 : Option Addr) (n cap n2 cap2 : Nat) (M : Mask) (p : List (List Int)) (E : Nat) (k : Int) (hn : M.length = n) (hn2 : p.length = n2) (hm : n ≤ maxLen) (hm2 : n2 ≤ maxLen) (H : RowsAt w a M) (H2 : RowsAt w a2 p) (hP : picsB M p = true) (hE : 1 ≤ E) (hE2 : E ≤ 60) :
    Calls Tryz.prog 33 #[.slice a n cap, .slice a2 n2 cap2, .int .i64 E, .int .i64 k] w fun e w' => e = .returned (.bool (rightF M p E k)) ∧ Below w.heap.size w w' := by
  have heq := fun (w : World) (a : Option Addr) (n c : Nat) => Lib.run_eql_slice_nil (P := Tryz.prog) w 33 3 a n c 0 0 Tryz.underlying33
  obtain ⟨hM, hp1, hp60, hpp⟩ := picsB_ok hP
  obtain ⟨wz, hz⟩ : ∃ wz, wz = (w.alloc (.cells #[.slice a2 n2 cap2] 22)).alloc (.cells #[.bool false] 4) := ⟨_, rfl⟩
  have hbz : Below w.heap.size w wz := by rw [hz]; exact ((Below.refl _ _).alloc (Nat.le_refl _) _).alloc (by simp) _
  have b1 : Boxed wz w.heap.size 22 (.slice a2 n2 cap2) := by rw [hz]; exact (Boxed.new w _ _).alloc _
  have b2 : Boxed wz (w.heap.size + 1) 4 (.bool false) := by rw [hz]; have := Boxed.new (w.alloc (.cells #[.slice a2 n2 cap2] 22)) 4 (.bool false); simpa using this
  have hsz : wz.heap.size = w.heap.size + 2 := by rw [hz]; simp
  have HZ := hid hz
  have HEN := hid (encode_c wz a a2 n cap n2 cap2 M p E hn hn2 hm (H.below hbz) (H2.below hbz) hP hE hE2)
  have HH := hid H
  have HH2 := hid H2
  have HB := hid hbz
  have B1 := hid b1
  have B2 := hid b2
  have HSZ := hid hsz
  have HPO := hid hP
  have HN2 := hid hn2
  have HN := hid hn
  have hc1 := b1.cell
  have hn60 : n2 ≤ 60 := by rw [← hn2]; exact hp60
  clear hn hn2 hm H H2 hP hpp hbz b1 b2 hz hsz
  refine callsIn_wide (n := 0) |>.1 ?_
  refine callsIn_of_wp_marks Tryz.func33 rfl trivial ?_ rfl
  simp only [Tryz.ntmps33, List.size_toArray, List.length_cons, List.length_nil, Nat.reduceAdd, Nat.reduceSub, Array.replicate_succ, Array.replicate_zero, List.push_toArray, List.append_toArray, List.nil_append, List.cons_append]
  gi_wp2_with fail
  rw [← HZ.out]
  gi_wp2_with (refine ⟨trivial, rfl, ?_⟩; gi_at_call 51; refine (callsIn_wide.2 HEN.out).mono ?_; rintro e w1 ⟨v1, rfl, ho1, hb1⟩; refine Stop.of ?_)
  refine Stop.go ?_
  obtain ⟨fa, fc, rfl, hfm, hfr⟩ := ho1.reads
  have HFR := hid hfr
  have HB1 := hid hb1
  clear ho1 hb1 hfr HEN
  gi_wp2_with (refine ⟨trivial, rfl, ?_⟩; gi_at_call 40; refine (callsIn_wide.2 (decoded_c _ _ _ _ _ _ _ _)).mono ?_; rintro e w' ⟨rfl, rfl⟩; refine Stop.of ?_)
  refine Stop.go ?_
  obtain ⟨F, hF⟩ : ∃ F, F = encF M p E := ⟨_, rfl⟩
  have hFl : (encF M p E).length = n2 := by rw [encF_len, HN2.out]
  have HVF := hid (show ∀ f ∈ F, frB M f = true from by
    have := encF_valid HPO.out E
    unfold validB at this
    simp only [Bool.and_eq_true, List.all_eq_true] at this
    rw [hF]; exact this.2)
  have hRF : rightF M p E k = (List.range n2).all fun j => decide (decAt M k F (j + 1) = some (p[j]?.getD [])) := by unfold rightF; rw [hF, HN2.out]
  rw [hFl]
  rw [← hF] at HFR hFl
  obtain ⟨w3, hw3⟩ : ∃ w3, w3 = ((w1.alloc (.cells #[.slice a n cap] 23)).alloc (.cells #[.slice fa n2 fc] 37)).alloc (.cells #[.int .i64 k] 3) := ⟨_, rfl⟩
  have c1 : Boxed w3 w1.heap.size 23 (.slice a n cap) := by rw [hw3]; exact ((Boxed.new w1 _ _).alloc _).alloc _
  have c2 : Boxed w3 (w1.heap.size + 1) 37 (.slice fa n2 fc) := by rw [hw3]; have := (Boxed.new (w1.alloc (.cells #[.slice a n cap] 23)) 37 (.slice fa n2 fc)).alloc (.cells #[.int .i64 k] 3); simpa using this
  have c3 : Boxed w3 (w1.heap.size + 2) 3 (.int .i64 k) := by rw [hw3]; have := Boxed.new ((w1.alloc (.cells #[.slice a n cap] 23)).alloc (.cells #[.slice fa n2 fc] 37)) 3 (.int .i64 k); simpa using this
  have hs3 : w3.heap.size = w1.heap.size + 3 := by rw [hw3]; simp
  have hb3 : Below w1.heap.size w1 w3 := by rw [hw3]; exact (((Below.refl _ _).alloc (Nat.le_refl _) _).alloc (by simp) _).alloc (by simp; omega) _
  rw [← hw3]
  have hzs := HSZ.out
  have h1s := HB1.out.size
  have hbx : Boxed w1 (w.heap.size + 1) 4 (.bool false) := (HB1.out.block _ (by omega)).trans B2.out
  have hbx3 : Boxed w3 (w.heap.size + 1) 4 (.bool false) := (hb3.block _ (by omega)).trans hbx
  have hpx3 : Boxed w3 w.heap.size 22 (.slice a2 n2 cap2) := (hb3.block _ (by omega)).trans ((HB1.out.block _ (by omega)).trans B1.out)
  have hB3 : Below w.heap.size w w3 := chain (chain HB.out HB1.out) hb3
  obtain ⟨fp, hfp⟩ : ∃ fp : Nat → Prop, fp = fun q => q < w3.heap.size ∧ q ≠ w.heap.size + 1 := ⟨_, rfl⟩
  have HIT := hid (dec_iter w3 fp (w1.heap.size + 1) w1.heap.size (w1.heap.size + 2) a fa n cap n2 fc M F k HN.out hM hFl (by omega) HVF.out (by rw [hfp]; exact fun q h => h.1)
    (fun X hX hq => by
      rw [hfp] at hq
      refine ⟨⟨RowsAt.blk HH.out fun q hlt => (hq q ⟨by omega, by omega⟩).trans (hB3.block q hlt), ?_⟩, cell_blk c2.cell (hq _ ⟨by omega, by omega⟩), cell_blk c1.cell (hq _ ⟨by omega, by omega⟩), cell_blk c3.cell (hq _ ⟨by omega, by omega⟩)⟩
      exact (FramesAt.ex HFR.out hbx fun q hlt hne => (hq q ⟨by omega, hne⟩).trans (hb3.block q hlt))))
  have HFP := hid hfp
  have HBX3 := hid hbx3
  have HPX3 := hid hpx3
  have HB3 := hid hB3
  have HS3 := hid hs3
  have HRF := hid hRF
  clear hfp hbx hbx3 hpx3 hB3 hs3 hRF hFl hF c1 c2 c3 hw3 hb3 hc1 HFR
  gi_wp2
  refine range_p (gf := 61) (lb := #[.pointer (some ⟨w1.heap.size + 1, 0, none⟩), .pointer (some ⟨w1.heap.size, 0, none⟩), .pointer (some ⟨w1.heap.size + 2, 0, none⟩)]) (xs := List.range n2) (fp := fp) (V := DecV M k F) rfl (enters_of Tryz.func61 (by kernel_rfl) rfl)
    HIT.out (Below.refl _ _) (by rw [HFP.out]; exact fun q h => h.1)
    (fun Sr pre Z => Keep (fun q => q < w3.heap.size) w3 Z ∧ ∀ j ∈ pre, decAt M k F (j + 1) = some (p[j]?.getD []))
    (fun Sr c pre Z => c = .ret ∧ Keep (fun q => q < w3.heap.size ∧ q ≠ w.heap.size + 1) w3 Z ∧ Boxed Z (w.heap.size + 1) 4 (.bool false) ∧ rightF M p E k = false) ?hI ?hIx ?hV ?h0
    (fun v u a' Z => a' = { tmps := #[.slice a n cap, .slice a2 n2 cap2, .int .i64 E, .int .i64 k, undef, .pointer (some ⟨w.heap.size, 0, none⟩), undef, undef, .pointer (some ⟨w.heap.size + 1, 0, none⟩), v, u, .slice a n cap, .slice a n cap, .slice a2 n2 cap2, .int .i64 E, .slice fa n2 fc, .int .i64 k, .func (.func 61) #[] #[.pointer (some ⟨w1.heap.size + 1, 0, none⟩), .pointer (some ⟨w1.heap.size, 0, none⟩), .pointer (some ⟨w1.heap.size + 2, 0, none⟩)], v, u, undef, undef, undef, undef, undef, undef, undef, undef, undef, undef, undef], defers := [] }) ?hAx ?hassign ?hbody ?hdone ?hstop
  case hI =>
    rintro Sr Sr' s A B ⟨h1, h2⟩ _ _ h3 h4 hk
    exact ⟨h1.trans (hk.mono fun q hq => ⟨by omega, by omega, fun hs => by have := h3 q hs; omega⟩), h2⟩
  case hIx =>
    rintro Sr Sr' c s A B ⟨h1, h2, h5, h6⟩ _ _ h3 h4 hk
    have hs := HS3.out
    exact ⟨h1, h2.trans (hk.mono fun q hq => ⟨by omega, by omega, fun hs => by have := h3 q hs; omega⟩), (hk.block _ h5.lt ⟨by omega, by omega, fun hs => by have := h3 _ hs; omega⟩).trans h5, h6⟩
  case hV =>
    intro Sr x v u A B hv hk
    exact hv.keep hk (fun q hq => ⟨by omega, by omega⟩)
  case h0 =>
    intro Z hk hZ
    exact ⟨hk, fun j hj => by simp at hj⟩
  case hAx =>
    intro v u a' A B h _
    exact h
  case hassign =>
    rintro l Sr x v u Z K hZ hv hK
    gi_wp2
    exact hK _ _ (Below.refl _ _) rfl
  case hbody =>
    rintro l' Sr pre j _ u _ Z hpre hSr ⟨hk, hg⟩ ⟨rfl, ho⟩ rfl hZ hDo hLo
    have hj : j < n2 := List.mem_range.1 (hpre.subset (List.mem_append_right _ (List.mem_singleton.2 rfl)))
    have hs3 := HS3.out
    have hks : ∀ q, q < w.heap.size → Z.heap[q]? = w.heap[q]? := fun q hq => (hk.block q (by omega) (by show q < w3.heap.size; omega)).trans (HB3.out.block q hq)
    obtain ⟨pb, po, ya, yn, yc, rfl, hpb, hpc, hyn, hym, hyi⟩ := (RowsAt.blk HH2.out hks) j (by rw [HN2.out]; exact hj)
    have hbc := (show Boxed Z w.heap.size 22 (.slice (some ⟨pb, po, none⟩) n2 cap2) from (hk.block _ HPX3.out.lt (by show w.heap.size < w3.heap.size; omega)).trans HPX3.out).cell
    have hrb : Boxed Z (w.heap.size + 1) 4 (.bool false) := (hk.block _ HBX3.out.lt (by show w.heap.size + 1 < w3.heap.size; omega)).trans HBX3.out
    have hyv : p[j]?.getD [] = p[j]'(by rw [HN2.out]; exact hj) := by rw [List.getElem?_eq_getElem (by rw [HN2.out]; exact hj)]; rfl
    obtain ⟨y, hy⟩ : ∃ y, y = p[j]'(by rw [HN2.out]; exact hj) := ⟨_, rfl⟩
    rw [← hy] at hyn hyi hyv
    have hrc := hrb.cell
    have hrf := hrb.frozen
    have hrl := hrb.lt
    have HBAD := hid (show decAt M k F (j + 1) ≠ some y → rightF M p E k = false from fun h => by
      rw [HRF.out, List.all_eq_false]
      exact ⟨j, List.mem_range.2 hj, by rw [hyv]; simpa using h⟩)
    have HSET := hid (show ∀ X : World, Keep (fun _ => True) Z X → (Z.heap.size ≤ (X.setCell ⟨w.heap.size + 1, 0, none⟩ (.bool false)).heap.size ∧ (∀ q, (fp q ∨ q = w3.heap.size ∨ q = w3.heap.size + 1 ∨ Sr q) → (X.setCell ⟨w.heap.size + 1, 0, none⟩ (.bool false)).heap[q]? = Z.heap[q]?) ∧ Keep (fun q => q < w3.heap.size ∧ q ≠ w.heap.size + 1) w3 (X.setCell ⟨w.heap.size + 1, 0, none⟩ (.bool false)) ∧ Boxed (X.setCell ⟨w.heap.size + 1, 0, none⟩ (.bool false)) (w.heap.size + 1) 4 (.bool false)) from fun X hX => by
      have hst := Keep.set X (w.heap.size + 1) 0 (.bool false)
      refine ⟨Nat.le_trans hX.size hst.size, fun q hq => ?_, (hk.mono fun q h => h.1).trans ((hX.mono fun _ _ => trivial).trans (hst.mono fun q h => h.2)), Boxed.set _ ((hX.block _ hrl trivial).trans hrb)⟩
      have hq2 : q ≠ w.heap.size + 1 ∧ q < Z.heap.size := by
        rcases hq with h | h | h | h
        · rw [HFP.out] at h; exact ⟨h.2, by have := h.1; omega⟩
        · omega
        · omega
        · have := hSr q h; omega
      exact (hst.block q (Nat.lt_of_lt_of_le hq2.2 hX.size) hq2.1).trans (hX.block q hq2.2 trivial))
    have HG := hid hg
    have HK := hid hk
    have HSR := hid hSr
    have hj0 : (0 : Int) ≤ (j : Int) := by omega
    have hj1 : (j : Int) < (n2 : Int) := by omega
    rcases ho with ⟨hno, rfl⟩ | ⟨x, b, c, hx, rfl, hxb, hxS, hxs, hx1, hxm⟩
    · have hbad := HBAD.out (by rw [hno]; simp)
      have HBD := hid hbad
      clear hks hyn hym hyi hyv hy hno hbad hg hk hrb hSr hpb hDo hLo
      gi_wp2
      refine ⟨trivial, ?_⟩
      gi_wp2
      obtain ⟨s1, s2, s3, s4⟩ := HSET.out Z (Keep.refl _ _)
      exact ⟨s1, s2, rfl, s3, s4, HBD.out⟩
    · have HEQ := hid (equalI_c Z (some ⟨b, 0, none⟩) ya x.length c yn yc x y rfl hyn hxm hym hxs.ints hyi)
      by_cases hxy : x = y
      · rw [decide_eq_true hxy] at HEQ
        have hgood : decAt M k F (j + 1) = some (p[j]?.getD []) := by rw [hx, hxy, hyv]
        have HGO := hid hgood
        clear hks hyn hym hyi hyv hy hgood hg hk hrb hSr hpb hDo hLo hx hxb hxS hxs hx1 hxm hxy
        gi_wp2_with (refine ⟨trivial, rfl, ?_⟩; gi_at_call 56; refine (CallsIn.inRound l' (callsIn_wide.2 HEQ.out)).mono ?_; rintro e w4 ⟨rfl, q4, rfl⟩)
        refine ⟨Nat.le_refl _, fun _ _ => rfl, HK.out.trans ((Keep.refl _ _).drewN _), fun i hi => ?_⟩
        rcases List.mem_append.1 hi with h | h
        · exact HG.out i h
        · rw [List.mem_singleton.1 h]; exact HGO.out
      · rw [decide_eq_false hxy] at HEQ
        have hbad := HBAD.out (by rw [hx]; intro h; cases h; exact hxy rfl)
        have HBD := hid hbad
        have hrcN : ∀ q, (Z.drewN q).cell? ⟨w.heap.size + 1, 0, none⟩ = some (.bool false) := fun q => hrc
        clear hks hyn hym hyi hyv hy hbad hg hk hrb hSr hpb hDo hLo hx hxb hxS hxs hx1 hxm hxy
        gi_wp2_with (refine ⟨trivial, rfl, ?_⟩; gi_at_call 56; refine (CallsIn.inRound l' (callsIn_wide.2 HEQ.out)).mono ?_; rintro e w4 ⟨rfl, q4, rfl⟩)
        obtain ⟨s1, s2, s3, s4⟩ := HSET.out (Z.drewN q4) ((Keep.refl _ _).drewN _)
        exact ⟨s1, s2, rfl, s3, s4, HBD.out⟩
  case hdone =>
    rintro Sr Z hZ hSr ⟨hk, hg⟩ hmk
    have hs3 := HS3.out
    have hrt : rightF M p E k = true := by
      rw [HRF.out, List.all_eq_true]
      intro j hj
      simpa using hg j hj
    have hrb : Boxed Z (w.heap.size + 1) 4 (.bool false) := (hk.block _ HBX3.out.lt (by show w.heap.size + 1 < w3.heap.size; omega)).trans HBX3.out
    have hrc := hrb.cell
    have hrf := hrb.frozen
    have hrl := hrb.lt
    have hbZ : Below w.heap.size w Z := hk.below HB3.out HB3.out.size (fun q hq => by show q < w3.heap.size; have := HB3.out.size; omega)
    have hset : Below w.heap.size w (Z.setCell ⟨w.heap.size + 1, 0, none⟩ (.bool true)) := below_set hbZ (by omega) _ _
    have hbs : Boxed (Z.setCell ⟨w.heap.size + 1, 0, none⟩ (.bool true)) (w.heap.size + 1) 4 (.bool true) := Boxed.set _ hrb
    have hmk2 : (Z.setCell ⟨w.heap.size + 1, 0, none⟩ (.bool true)).heap[w3.heap.size]? = some (.deferred (some [])) := (Below.heap_setCell _ _ _ _ (by show w3.heap.size ≠ w.heap.size + 1; omega)).trans hmk
    have HSET := hid hset
    have HBS := hid hbs
    have HMK := hid hmk2
    clear hg hk hmk hSr hrb hbZ hset hbs hmk2
    gi_wp2
    refine marks_leave [w3.heap.size] _ (by simp) (fun h hh => by rw [List.mem_singleton.1 hh]; exact HMK.out) fun w' hk' => ?_
    have hne : w.heap.size + 1 ∉ [w3.heap.size] := fun hh => by rw [List.mem_singleton] at hh; omega
    have hbw : Boxed w' (w.heap.size + 1) 4 (.bool true) := (hk'.block _ HBS.out.lt hne).trans HBS.out
    have hbc := hbw.cell
    have hfin : Below w.heap.size w w' := hk'.below HSET.out HSET.out.size (fun q hq hh => by rw [List.mem_singleton.1 hh] at hq; omega)
    refine ⟨.bool true, ?_, by rw [hrt], hfin⟩
    simp [results, Tryz.results33, go_sem, hbc]
  case hstop =>
    rintro Sr c pre Z hpre hSr ⟨rfl, hk, hbx, hR⟩ hmk
    have hs3 := HS3.out
    have hbZ : Below w.heap.size w Z := hk.below HB3.out HB3.out.size (fun q hq => by show q < w3.heap.size ∧ q ≠ w.heap.size + 1; have := HB3.out.size; omega)
    have HBX := hid hbx
    have HBZ := hid hbZ
    have HMK := hid hmk
    clear hk hbx hbZ hmk hSr hpre
    gi_wp2
    refine marks_leave [w3.heap.size] _ (by simp) (fun h hh => by rw [List.mem_singleton.1 hh]; exact HMK.out) fun w' hk' => ?_
    have hne : w.heap.size + 1 ∉ [w3.heap.size] := fun hh => by rw [List.mem_singleton] at hh; omega
    have hbw : Boxed w' (w.heap.size + 1) 4 (.bool false) := (hk'.block _ HBX.out.lt hne).trans HBX.out
    have hbc := hbw.cell
    have hfin : Below w.heap.size w w' := hk'.below HBZ.out HBZ.out.size (fun q hq hh => by rw [List.mem_singleton.1 hh] at hq; omega)
    refine ⟨.bool false, ?_, by rw [hR], hfin⟩
    simp [results, Tryz.results33, go_sem, hbc]
end Go.Proofs.YtkmjeegnijohmaaGreat

namespace Go.Proofs.YtkmjeegnijohmaaGreat
open Go.RowKit
set_option linter.unusedVariables false

theorem frames_cells {W : World} {a : Option Addr} {fs : List Frm} (h : FramesAt W a fs) : ∃ xs : List Value, xs.length = fs.length * 2 ∧
    (∀ j (hj : j < fs.length), xs[j * 2]? = some (.bool fs[j].1) ∧ ∃ ra rn rc, xs[j * 2 + 1]? = some (.slice ra rn rc) ∧ fs[j].2.length = rn ∧ rn ≤ maxLen ∧ IntsAt W ra fs[j].2) ∧
    (∀ ad, a = some ad → ∀ j u, xs[j]? = some u → W.cell? (ad.add j) = some u) ∧ (∀ u ∈ xs, u.oneCell' = true) ∧ (∀ j (hj : j < fs.length), ∀ b o, a = some ⟨b, o, none⟩ → b < W.heap.size) := by
  rcases Nat.eq_zero_or_pos fs.length with h0 | h0
  · have : fs = [] := List.eq_nil_of_length_eq_zero h0
    subst this
    exact ⟨[], rfl, fun j hj => by simp at hj, fun _ _ j u hu => by simp at hu, fun u hu => by simp at hu, fun j hj => by simp at hj⟩
  · obtain ⟨b, off, _, _, _, rfl, hb, _⟩ := h 0 h0
    have hcell : ∀ j, j < fs.length * 2 → ∃ u, W.cell? ⟨b, off + j, none⟩ = some u ∧ u.oneCell' = true := by
      intro j hj
      obtain ⟨b', off', ra, rn, rc, e, _, k0, k1, _⟩ := h (j / 2) (by omega)
      cases e
      rcases Nat.mod_two_eq_zero_or_one j with hm | hm
      · exact ⟨_, by rw [show off + j = off + j / 2 * 2 by omega]; exact k0, rfl⟩
      · exact ⟨_, by rw [show off + j = off + j / 2 * 2 + 1 by omega]; exact k1, rfl⟩
    refine ⟨(List.range (fs.length * 2)).map (fun j => (W.cell? ⟨b, off + j, none⟩).getD undef), by simp, fun j hj => ?_, fun ad e j u hu => ?_, fun u hu => ?_, fun j hj b' o e => ?_⟩
    · obtain ⟨b', off', ra, rn, rc, e, _, k0, k1, hn, hm, hi⟩ := h j hj
      cases e
      refine ⟨?_, ra, rn, rc, ?_, hn, hm, hi⟩
      · rw [List.getElem?_map, List.getElem?_range (by omega)]; simp [k0]
      · rw [List.getElem?_map, List.getElem?_range (by omega)]; simp only [Option.map_some]; rw [show off + (j * 2 + 1) = off + j * 2 + 1 by omega, k1]; rfl
    · cases e
      rw [List.getElem?_map] at hu
      obtain ⟨i, hi, rfl⟩ := Option.map_eq_some_iff.1 hu
      obtain ⟨hil, e2⟩ := List.getElem?_eq_some_iff.1 hi
      rw [List.getElem_range] at e2
      subst e2
      rw [List.length_range] at hil
      obtain ⟨u, k, _⟩ := hcell j hil
      rw [Addr.add_lit, k]; rfl
    · obtain ⟨j, hj, rfl⟩ := List.mem_map.1 hu
      obtain ⟨u, k, k1⟩ := hcell j (List.mem_range.1 hj)
      rw [k]; exact k1
    · cases e; exact hb

theorem FrmsO.app {W w1 w2 : World} {base : Nat} {S : Nat → Prop} {v v' : Value} {T F : List Frm} {xs ys : List Value}
    (ho : W.ownsRow base 47 2 v T.length xs) (he : ∀ j (hj : j < T.length), xs[j * 2]? = some (.bool T[j].1) ∧ ∃ u, xs[j * 2 + 1]? = some u ∧ ElemI 3 W base S u T[j].2)
    (hy : ys.length = F.length * 2) (hf : ∀ j (hj : j < F.length), ys[j * 2]? = some (.bool F[j].1) ∧ ∃ u, ys[j * 2 + 1]? = some u ∧ ElemI 3 W base S u F[j].2)
    (hW1 : Below W.heap.size W w1) (hg : w1.grownBy w2 v.ownBlock) (ho' : w2.ownsRow base 47 2 v' (T.length + F.length) (xs ++ ys)) (hS' : ∀ k, v'.ownBlock = some k → S k) : FrmsO w2 base S v' (T ++ F) := by
  have hlen : xs.length = T.length * 2 := ho.1
  have hgb : ∀ b, (b < base ∨ ∃ c f, W.heap[b]? = some (.cells c 3 f)) → b < W.heap.size → w2.heap[b]? = W.heap[b]? := by
    intro b hty hb
    refine (hg.block b (Nat.lt_of_lt_of_le hb hW1.size) ?_).trans (hW1.block b hb)
    rcases ho.2 with ⟨rfl, _⟩ | ⟨g, cap, cur, rfl, hbg, hgg, _⟩
    · simp [Value.ownBlock]
    · intro e
      obtain rfl : b = g := by simpa [Value.ownBlock] using e
      rcases hty with h | ⟨c, f, h⟩
      · omega
      · rw [h] at hgg; cases hgg
  have hel : ∀ u l, ElemI 3 W base S u l → ElemI 3 w2 base S u l := by
    intro u l h
    refine h.keep (T := fun b => b < W.heap.size ∧ (b < base ∨ ∃ c f, W.heap[b]? = some (.cells c 3 f))) ⟨hg.os.trans hW1.os, hg.tape.trans hW1.tape, hg.output.trans hW1.output, Nat.le_trans hW1.size hg.size, fun k hk hT => hgb k hT.2 hk⟩ fun b _ hb hty => ⟨hb, hty⟩
  refine ⟨xs ++ ys, by rw [List.length_append]; exact ho', hS', fun j hj => ?_⟩
  by_cases e : j < T.length
  · obtain ⟨k1, u', k2, k3⟩ := he j e
    refine ⟨by rw [List.getElem?_append_left (by omega), List.getElem_append_left e]; exact k1, u', by rw [List.getElem?_append_left (by omega)]; exact k2, ?_⟩
    rw [List.getElem_append_left e]; exact hel _ _ k3
  · rw [List.length_append] at hj
    obtain ⟨k1, u', k2, k3⟩ := hf (j - T.length) (by omega)
    have e1 : (T ++ F)[j]'(by rw [List.length_append]; exact hj) = F[j - T.length]'(by omega) := List.getElem_append_right (by omega)
    refine ⟨by rw [List.getElem?_append_right (by omega), show j * 2 - xs.length = (j - T.length) * 2 by omega, e1]; exact k1, u', by rw [List.getElem?_append_right (by omega), show j * 2 + 1 - xs.length = (j - T.length) * 2 + 1 by omega]; exact k2, ?_⟩
    rw [e1]; exact hel _ _ k3

theorem elems_old {W : World} {base : Nat} {fs : List Frm} {ys : List Value} (h : ∀ j (hj : j < fs.length), ys[j * 2]? = some (.bool fs[j].1) ∧ ∃ ra rn rc, ys[j * 2 + 1]? = some (.slice ra rn rc) ∧ fs[j].2.length = rn ∧ rn ≤ maxLen ∧ IntsAt W ra fs[j].2)
    (hb : W.heap.size ≤ base) {W' : World} (hW : Below W.heap.size W W') : ∀ j (hj : j < fs.length), ys[j * 2]? = some (.bool fs[j].1) ∧ ∃ u, ys[j * 2 + 1]? = some u ∧ ElemI 3 W' base (fun _ => True) u fs[j].2 := by
  intro j hj
  obtain ⟨h1, ra, rn, rc, h2, h3, h4, h5⟩ := h j hj
  refine ⟨h1, _, h2, ra, rn, rc, rfl, h3, h4, fun i hi => ?_⟩
  obtain ⟨b, o, e, hlt, hc⟩ := h5 i hi
  exact ⟨b, o, e, trivial, Nat.lt_of_lt_of_le hlt hW.size, .inl (Nat.lt_of_lt_of_le hlt hb), (hW.cell (p := ⟨b, _, none⟩) hlt).trans hc⟩

theorem FrmsO.set {W : World} {base g n c k : Nat} {S : Nat → Prop} {F : List Frm} {u : Value} {l : List Int} (h : FrmsO W base S (.slice (some ⟨g, 0, none⟩) n c) F) (hk : k < F.length) (hu : ElemI 3 W base S u l) :
    FrmsO (W.setCell ⟨g, k * 2 + 1, none⟩ u) base S (.slice (some ⟨g, 0, none⟩) n c) (F.set k (F[k].1, l)) := by
  obtain ⟨xs, ho, hg, he⟩ := h
  rcases ho.2 with ⟨e, _⟩ | ⟨g', cap, cur, e, hbg, hgg, hnc, hcm, hsz, htk⟩
  · cases e
  · cases e
    have hel : ∀ u' l', ElemI 3 W base S u' l' → ElemI 3 (W.setCell ⟨g, k * 2 + 1, none⟩ u) base S u' l' := by
      intro u' l' h
      refine h.keep (T := fun b => b ≠ g) (Keep.set _ _ _ _) fun b _ hb hty e => ?_
      subst e
      rcases hty with h | ⟨c, f, h⟩
      · omega
      · rw [h] at hgg; cases hgg
    have hxl : xs.length = F.length * 2 := ho.1
    refine ⟨xs.set (k * 2 + 1) u, ⟨by simp [hxl], .inr ⟨g, c, cur.setIfInBounds (k * 2 + 1) u, by simp, hbg, cells_set hgg _ _, by simpa using hnc, hcm, by simpa using hsz, ?_⟩⟩, hg, fun j hj => ?_⟩
    · rw [Array.toList_setIfInBounds, List.length_set]
      rw [← htk, List.take_set]
    · rw [List.length_set] at hj
      obtain ⟨k1, u', k2, k3⟩ := he j hj
      by_cases e : j = k
      · subst e
        refine ⟨by rw [List.getElem?_set_ne (by omega), List.getElem_set_self]; exact k1, u, by rw [List.getElem?_set_self (by omega)], ?_⟩
        rw [List.getElem_set_self]; exact hel _ _ hu
      · refine ⟨by rw [List.getElem?_set_ne (by omega), List.getElem_set_ne (by omega)]; exact k1, u', by rw [List.getElem?_set_ne (by omega)]; exact k2, ?_⟩
        rw [List.getElem_set_ne (by omega)]; exact hel _ _ k3
end Go.Proofs.YtkmjeegnijohmaaGreat

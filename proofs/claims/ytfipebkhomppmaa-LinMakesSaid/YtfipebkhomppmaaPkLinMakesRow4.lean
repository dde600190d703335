/- Walks and plain laws for LinMakesRow, part 4. -/
import Derived.Maps.RangeWalk
import Derived.Maps.AppendAt
import Derived.Deep.CutRange
import Derived.Sort.QuietIn
import Derived.Sort.LoopGhostIn
import Derived.Sort.CutIn
import Derived.Test.YtfipebkhomppmaaPkLinMakesRow3
namespace Go.Proofs.Ytfipebkhomppmaa
open Go.RowKit
set_option linter.unusedVariables false

theorem region_cut {P : Program} {c : Code} {Q : Exit → Act → World → Prop} {a : Act} {w : World} (R : Act → Act → World → Prop) (h1 : c.wp P (fun e a' w' => e = .normal ∧ R a a' w') a w) (h2 : ∀ a' w', R a a' w' → Q .normal a' w') : c.wp P Q a w :=
  Code.wp_mono (fun e a' w' ⟨he, hr⟩ => by subst he; exact h2 a' w' hr) h1

theorem prim1 (w : World) : PredI Try.prog 119 #[] w (fun n => decide (n ≠ 0)) := by
  intro x W hb
  by_cases e : x = 0
  · subst e
    go_enter Try.func119, Try.ntmps119
    go_wp2
    go_ret
    exact ⟨rfl, Below.refl _ _⟩
  · have hd : (x == 0) = false := by simpa using e
    have HE := hid e
    clear e
    go_enter Try.func119, Try.ntmps119
    go_wp2
    go_ret
    exact ⟨ret_bool (by have := HE.out; simp [this]), Below.refl _ _⟩

theorem firstNz_zero : ∀ {l : List Int}, (∀ x ∈ l, x = 0) → firstNz l = 0
  | [], _ => rfl
  | x :: l, h => by unfold firstNz; rw [if_pos (h x (by simp))]; exact firstNz_zero fun y hy => h y (by simp [hy])

theorem idx_nz (l : List Int) : (idxP (fun n => decide (n ≠ 0)) l 0 = -1 ∧ firstNz l = 0) ∨ ∃ k : Nat, k < l.length ∧ idxP (fun n => decide (n ≠ 0)) l 0 = (k : Int) ∧ firstNz l = l[k]?.getD 0 := by
  rw [idxP_find]
  cases h : l.findIdx? (fun n => decide (n ≠ 0)) with
  | none =>
    left
    refine ⟨rfl, firstNz_zero fun x hx => ?_⟩
    have := List.findIdx?_eq_none_iff.1 h x hx
    simpa using this
  | some k =>
    right
    obtain ⟨h1, h2, h3⟩ := List.findIdx?_eq_some_iff_getElem.1 h
    refine ⟨k, h1, by simp, ?_⟩
    have hv : ∀ j (hj : j < l.length), vec l j = l[j] := fun j hj => vec_lt hj
    have := firstNz_at (l := l) (i := k) (fun j hj => by
      rw [hv j (by omega)]
      have := h3 j hj
      simpa using this) (by rw [hv k h1]; simpa using h2)
    rw [this]; rfl

set_option maxRecDepth 100000 in
set_option maxHeartbeats 4000000 in
theorem primitive_c (w : World) (b n cap : Nat) (l : List Int) (hn : l.length = n) (hm : n ≤ maxLen) (H : SpRow w b l) (hB : BndL 4611686018427387904 l) :
    Calls Try.prog 63 #[.slice (some ⟨b, 0, none⟩) n cap] w fun e w' => e = .returned (.slice (some ⟨b, 0, none⟩) n cap) ∧ SpRow w' b (primV l) ∧ Keep (fun k => k ≠ b) w w' := by
  have HS := hid (shortened_c w b n cap l hn hm H hB)
  have hsl : (shortF l).length = n := by rw [shortF_len, hn]
  have hsb : BndL 4611686018427387904 (shortF l) := by
    refine mem_vec (P := fun x => -((4611686018427387904 : Nat) : Int) ≤ x ∧ x ≤ ((4611686018427387904 : Nat) : Int)) fun c => ?_
    have h1 := shortF_le l c
    have h2 := vec_mem (P := fun x => -((4611686018427387904 : Nat) : Int) ≤ x ∧ x ≤ ((4611686018427387904 : Nat) : Int)) (by omega) hB c
    omega
  have hp : primV l = if firstNz (shortF l) < 0 then negF (shortF l) else shortF l := rfl
  rw [hp]
  obtain ⟨s, hs⟩ : ∃ s, s = shortF l := ⟨_, rfl⟩
  rw [← hs] at HS hsl hsb ⊢
  have HSL := hid hsl
  have HSB := hid hsb
  have hm9 := hm
  unfold maxLen at hm9
  clear hn H hB hs hp hsl hsb
  rcases idx_nz s with ⟨hi, hf⟩ | ⟨k, hks, hi, hf⟩
  · rw [hf]
    have HIX := hid hi
    clear hi hf
    go_enter Try.func63, Try.ntmps63
    go_wp2_with (go_at_call 116; refine HS.out.mono ?_; rintro e w1 ⟨rfl, hr1, hk1⟩; refine Stop.of ?_)
    refine Stop.go ?_
    have HI := hid (indexI w1 (some ⟨b, 0, none⟩) n cap s HSL.out hm hr1.ints 119 #[] _ (enters_of Try.func119 (by kernel_rfl) rfl) (prim1 w1))
    rw [HIX.out] at HI
    have HR1 := hid hr1
    have HK1 := hid hk1
    clear hr1 hk1 HS
    go_wp2_with (go_at_call 118; refine HI.out.mono ?_; rintro e w2 ⟨rfl, hb2⟩)
    go_ret
    exact ⟨rfl, HR1.out.keep (hb2.block b HR1.out.lt), HK1.out.trans (Keep.of_below hb2)⟩
  · rw [hf]
    obtain ⟨x, hx⟩ : ∃ x, x = s[k]?.getD 0 := ⟨_, rfl⟩
    rw [← hx]
    have hkn : k < n := by rw [← HSL.out]; exact hks
    have i1 : (0 : Int) ≤ (k : Int) := by omega
    have i2 : (k : Int) < (n : Int) := by omega
    have HIX := hid hi
    have HX := hid hx
    have HKS := hid hks
    clear hi hf hx hks
    by_cases hxn : x < 0
    · rw [if_pos hxn]
      have hd : decide (x < 0) = true := decide_eq_true hxn
      clear hxn
      go_enter Try.func63, Try.ntmps63
      go_wp2_with (go_at_call 116; refine HS.out.mono ?_; rintro e w1 ⟨rfl, hr1, hk1⟩; refine Stop.of ?_)
      refine Stop.go ?_
      have HI := hid (indexI w1 (some ⟨b, 0, none⟩) n cap s HSL.out hm hr1.ints 119 #[] _ (enters_of Try.func119 (by kernel_rfl) rfl) (prim1 w1))
      rw [HIX.out] at HI
      have hc1 := hr1.cell HKS.out
      rw [← HX.out] at hc1
      have hlt1 := hr1.lt
      have HR1 := hid hr1
      have HK1 := hid hk1
      clear hr1 hk1 HS
      go_wp2_with (go_at_call 118; refine HI.out.mono ?_; rintro e w2 ⟨rfl, hb2⟩; refine Stop.of ?_)
      refine Stop.go ?_
      have hc2 : w2.cell? ⟨b, k, none⟩ = some (.int .i64 x) := (hb2.cell (p := ⟨b, k, none⟩) hlt1).trans hc1
      have HR2 := hid (HR1.out.keep (hb2.block b HR1.out.lt))
      have HK2 := hid (HK1.out.trans (Keep.of_below hb2))
      clear HI hb2 hc1 HR1 HK1
      go_wp2
      go_loopw [20] (fun i wr => ∃ t : Nat, t ≤ n ∧ i = .int .i64 t ∧ SpRow wr b (halfF (fun x => -x) s t) ∧ Keep (fun k => k ≠ b) w2 wr) (fun i _ => n - (intOf i).toNat)
      case atStart => exact ⟨0, Nat.zero_le _, rfl, by rw [halfF_zero]; exact HR2.out, Keep.refl _ _⟩
      case round =>
        obtain ⟨t, ht, rfl, hr, hkp⟩ := hrel
        by_cases hltt : t < n
        · have htl : t < s.length := by rw [HSL.out]; exact hltt
          have d2 := hr.cell (j := t) (by rw [halfF_len]; exact htl)
          rw [halfF_at _ htl] at d2
          have hz := hr.frozen t
          have hbd := HSB.out.get htl
          have hst := halfF_set (fun x => -x) htl
          have HSET := hid (fun (X : World) (hX : X.heap[b]? = wr.heap[b]?) v => (hr.keep hX).set t (by rw [halfF_len]; exact htl) v)
          have hgs := hr.lt
          obtain ⟨y, hy⟩ : ∃ y, y = s[t]?.getD 0 := ⟨_, rfl⟩
          rw [← hy] at d2 hbd hst
          have HST := hid hst
          have HKP := hid hkp
          have hwn : IntKind.i64.wrap (-y) = -y := IntWalk.i64_in _ (by omega)
          have ht0 : (0 : Int) ≤ (t : Int) := by omega
          have ht1 : (t : Int) < (n : Int) := by omega
          clear hr hkp hst hy htl hc2 i1 i2
          go_wp2
          refine ⟨⟨t + 1, by omega, by go_num, ?_, HKP.out.trans (Keep.set wr b t _)⟩, by simp [intOf]; omega⟩
          rw [← HST.out]
          exact HSET.out wr rfl _
        · obtain rfl : t = n := by omega
          go_wp2
          go_ret
          rw [← HSL.out, halfF_all] at hr
          exact ⟨rfl, hr, HK2.out.trans hkp⟩
    · rw [if_neg hxn]
      have hd : decide (x < 0) = false := decide_eq_false hxn
      clear hxn
      go_enter Try.func63, Try.ntmps63
      go_wp2_with (go_at_call 116; refine HS.out.mono ?_; rintro e w1 ⟨rfl, hr1, hk1⟩; refine Stop.of ?_)
      refine Stop.go ?_
      have HI := hid (indexI w1 (some ⟨b, 0, none⟩) n cap s HSL.out hm hr1.ints 119 #[] _ (enters_of Try.func119 (by kernel_rfl) rfl) (prim1 w1))
      rw [HIX.out] at HI
      have hc1 := hr1.cell HKS.out
      rw [← HX.out] at hc1
      have hlt1 := hr1.lt
      have HR1 := hid hr1
      have HK1 := hid hk1
      clear hr1 hk1 HS
      go_wp2_with (go_at_call 118; refine HI.out.mono ?_; rintro e w2 ⟨rfl, hb2⟩; refine Stop.of ?_)
      refine Stop.go ?_
      have hc2 : w2.cell? ⟨b, k, none⟩ = some (.int .i64 x) := (hb2.cell (p := ⟨b, k, none⟩) hlt1).trans hc1
      have HR2 := hid (HR1.out.keep (hb2.block b HR1.out.lt))
      have HK2 := hid (HK1.out.trans (Keep.of_below hb2))
      clear HI hb2 hc1 HR1 HK1
      go_wp2
      go_ret
      exact ⟨rfl, HR2.out, HK2.out⟩

theorem okM_ok {M : Mask} (h : okM M = true) : MaskOk M (colsM M) ∧ 1 ≤ M.length ∧ M.length ≤ 6 ∧ 1 ≤ colsM M ∧ colsM M ≤ 10 := by
  unfold okM inB at h
  simp only [Bool.and_eq_true, decide_eq_true_eq, List.all_eq_true] at h
  obtain ⟨⟨h1, h2⟩, h3⟩ := h
  have hr : ∀ r ∈ M, r.length = colsM M ∧ (1 ≤ r.length ∧ r.length ≤ 10) ∧ ∀ x ∈ r, -1 ≤ x ∧ x ≤ 1 := fun r hr => by
    have h4 := h3 r hr
    unfold okMRow inB at h4
    simp only [Bool.and_eq_true, decide_eq_true_eq, List.all_eq_true] at h4
    obtain ⟨h5, ⟨h6, h7⟩, h8⟩ := h4
    exact ⟨h5, ⟨by omega, by omega⟩, h8⟩
  have h0 : M.length ≠ 0 := by omega
  have hm0 : M[0]'(by omega) ∈ M := List.getElem_mem _
  obtain ⟨k1, k2, _⟩ := hr _ hm0
  refine ⟨⟨fun r hr' => (hr r hr').1, by omega, fun r hr' c => vec_mem (P := fun x => -1 ≤ x ∧ x ≤ 1) (by decide) (hr r hr').2.2 c⟩, by omega, by omega, by omega, by omega⟩

theorem cols_all {M : List (List Int)} {n : Nat} (h : ∀ r ∈ M, r.length = n) : colsF M (allI n) = M := by
  unfold colsF
  conv => rhs; rw [← List.map_id M]
  refine List.map_congr_left fun r hr => ?_
  refine List.ext_getElem (by simp [allI, h r hr]) fun i h1 h2 => ?_
  simp only [allI, List.getElem_map, List.getElem_range, id]
  simp only [Int.toNat_natCast]
  exact vec_lt _

theorem allI_mem {n : Nat} {j : Int} (h : j ∈ allI n) : 0 ≤ j ∧ j < (n : Int) := by
  unfold allI at h
  obtain ⟨i, hi, rfl⟩ := List.mem_map.1 h
  have := List.mem_range.1 hi
  omega

theorem rows_head {w : World} {a : Option Addr} {M : Mask} (H : RowsAt w a M) (h0 : 0 < M.length) :
    ∃ b off ra rc, a = some ⟨b, off, none⟩ ∧ b < w.heap.size ∧ w.cell? ⟨b, off, none⟩ = some (.slice ra (colsM M) rc) := by
  obtain ⟨b, off, ra, rn, rc, rfl, hb, hc, hn, _, _⟩ := H 0 h0
  refine ⟨b, off, ra, rc, rfl, hb, ?_⟩
  have e : colsM M = rn := by unfold colsM; rw [List.getElem?_eq_getElem h0]; exact hn
  rw [e]; simpa using hc

set_option maxHeartbeats 1000000 in
theorem lkernel_c (w : World) (a : Option Addr) (n cap : Nat) (M : Mask) (hn : M.length = n) (hm : n ≤ maxLen) (H : RowsAt w a M) :
    Calls Try.prog 25 #[.slice a n cap] w fun e w' => ∃ v base, w.heap.size ≤ base ∧ Below w.heap.size w w' ∧
      ((okM M = false ∧ e = .returned (.tuple #[.slice none 0 0, .int .i64 1])) ∨ (okM M = true ∧ e = .returned (.tuple #[v, .int .i64 0]) ∧ OwnM w' base v (kerSP M (allI (colsM M))))) := by
  have HV := hid (maskValid_c w a n cap M hn hm H)
  cases hok : okM M
  · rw [hok] at HV
    clear hn H
    go_enter Try.func25, Try.ntmps25
    go_wp2_with (go_at_call 69; refine HV.out.mono ?_; rintro e w1 ⟨rfl, hb1⟩)
    go_ret2
    exact ⟨.slice none 0 0, w.heap.size, Nat.le_refl _, hb1, .inl ⟨by first | trivial | rfl, rfl⟩⟩
  · rw [hok] at HV
    obtain ⟨hM, h1, h6, hc1, hc10⟩ := okM_ok hok
    obtain ⟨b, off, ra, rc, rfl, hb, hc⟩ := rows_head H (by omega)
    have HR := hid H
    have HN := hid hn
    have HM := hid hM
    have hn0 : 0 < n := by omega
    obtain ⟨W, hW⟩ : ∃ W, W = colsM M := ⟨_, rfl⟩
    rw [← hW] at hc hc1 hc10 HM ⊢
    clear hn H hM hok hW
    go_enter Try.func25, Try.ntmps25
    go_wp2_with (go_at_call 69; refine HV.out.mono ?_; rintro e w1 ⟨rfl, hb1⟩; refine Stop.of ?_)
    refine Stop.go ?_
    have hc' : w1.cell? ⟨b, off, none⟩ = some (.slice ra W rc) := (hb1.cell (p := ⟨b, off, none⟩) hb).trans hc
    have HRR := hid (HR.out.below hb1)
    go_wp2_with (go_at_call 70; refine (all_c _ W (by omega)).mono ?_; rintro e w2 ⟨v, rfl, ho2, hb2⟩; refine Stop.of ?_)
    refine Stop.go ?_
    obtain ⟨va, vc, rfl, hi2, hm2⟩ := ints_of_own ho2 (allI_len W)
    have HR2 := hid (HRR.out.below hb2)
    have HI2 := hid hi2
    clear hi2 ho2
    go_wp2_with (go_at_call 61; refine (pkernel_c w2 _ n cap M HN.out (by omega) HM.out HR2.out va W vc (allI W) (allI_len W) hc1 (by omega) HI2.out (fun j hj => allI_mem hj)).mono ?_; rintro e w3 ⟨v3, base3, rfl, hbs3, hO3, hb3⟩; refine Stop.of ?_)
    refine Stop.go ?_
    have hbw := chain (chain hb1 hb2) hb3
    have hbs : w.heap.size ≤ base3 := by have := hb1.size; have := hb2.size; omega
    have HO3 := hid hO3
    clear hO3
    go_wp2
    go_ret2
    exact ⟨v3, base3, hbs, hbw, .inr ⟨by first | trivial | rfl, rfl, HO3.out⟩⟩

set_option maxHeartbeats 1000000 in
theorem rank_c (w : World) (a : Option Addr) (n cap : Nat) (M : Mask) (hn : M.length = n) (hm : n ≤ maxLen) (H : RowsAt w a M) :
    Calls Try.prog 31 #[.slice a n cap] w fun e w' => Below w.heap.size w w' ∧
      ((okM M = false ∧ e = .returned (.tuple #[.int .i64 0, .int .i64 1])) ∨ (okM M = true ∧ e = .returned (.tuple #[.int .i64 (rankF M (colsM M)), .int .i64 0]))) := by
  have HV := hid (maskValid_c w a n cap M hn hm H)
  cases hok : okM M
  · rw [hok] at HV
    clear hn H
    go_enter Try.func31, Try.ntmps31
    go_wp2_with (go_at_call 69; refine HV.out.mono ?_; rintro e w1 ⟨rfl, hb1⟩)
    go_ret2
    exact ⟨hb1, .inl ⟨by first | trivial | rfl, rfl⟩⟩
  · rw [hok] at HV
    obtain ⟨hM, h1, h6, hc1, hc10⟩ := okM_ok hok
    obtain ⟨b, off, ra, rc, rfl, hb, hc⟩ := rows_head H (by omega)
    have HR := hid H
    have HN := hid hn
    have HM := hid hM
    have hn0 : 0 < n := by omega
    obtain ⟨W, hW⟩ : ∃ W, W = colsM M := ⟨_, rfl⟩
    rw [← hW] at hc hc1 hc10 HM ⊢
    obtain ⟨rk, hrk⟩ : ∃ rk, rk = rankF M W := ⟨_, rfl⟩
    rw [← hrk]
    have HRK := hid hrk
    have hz : (0 : Int) < (n : Int) := by omega
    have hW1 : W ≤ 1000 := by omega
    have hn6 : n ≤ 6 := by omega
    clear hn H hM hok hW hrk
    go_enter Try.func31, Try.ntmps31
    go_wp2_with (go_at_call 69; refine HV.out.mono ?_; rintro e w1 ⟨rfl, hb1⟩; refine Stop.of ?_)
    refine Stop.go ?_
    have HS := hid (fun (X : World) (hX : Below w.heap.size w X) => (hX.cell (p := ⟨b, off, none⟩) hb).trans hc)
    have HRR := hid (fun (X : World) (hX : Below w.heap.size w X) => HR.out.below hX)
    have HB1 := hid hb1
    clear hb1 HR
    go_wp2
    refine region_cut (fun fr fr' X => ∃ v7 v8 v9 v10 v11 v12 v13 v14 v15 v16 v17 v18, fr' = ((((((((((((((fr.put (some 7) v7).put (some 8) v8).put (some 9) v9).put (some 10) v10).put (some 11) v11).put (some 12) v12).put (some 13) v13).put (some 14) v14).put (some 15) v15).put (some 16) v16).put (some 17) v17).put (some 18) v18).put (some 19) (.int .i64 rk)).put (some 2) (.int .i64 rk)).put (some 3) (.int .i64 0) ∧ Below w.heap.size w X) ?_ ?_
    · refine plain_region (fun j' X => wAll j' = true → X.cell? ⟨b, off, none⟩ = some (.slice ra W rc)) (by kernel_rfl) ?_
      have hbd : Below w.heap.size w w1.drew := HB1.out.drew
      generalize w1.drew = wd at hbd ⊢
      refine AnyT.takeD (i := 0) (v := .slice (some ⟨b, off, none⟩) n cap) rfl rfl (by kernel_rfl) (by kernel_rfl) (by kernel_rfl) (by first | exact (fun _ _ _ h => h) | exact (fun _ _ _ h => absurd h.1 (by simp))) (by kernel_rfl) (by rfl) (by rintro w' q5; go_simp) (HS.out _ hbd) ?_; go_frame
      refine AnyT.takeD (i := 1) (v := .slice (some ⟨b, off, none⟩) n cap) rfl rfl (by kernel_rfl) (by kernel_rfl) (by kernel_rfl) (by first | exact (fun _ _ _ h => h) | exact (fun _ _ _ h => absurd h.1 (by simp))) (by kernel_rfl) (by rfl) (by rintro w' q5; go_simp) (HS.out _ hbd) ?_; go_frame
      refine AnyT.takeD (i := 2) (v := .pointer (some ⟨b, off, none⟩)) rfl rfl (by kernel_rfl) (by kernel_rfl) (by kernel_rfl) (by first | exact (fun _ _ _ h => h) | exact (fun _ _ _ h => absurd h.1 (by simp))) (by kernel_rfl) (by rfl) (by rintro w' q5; go_simp) (HS.out _ hbd) ?_; go_frame
      refine AnyT.takeD (i := 3) (v := .slice ra W rc) rfl rfl (by kernel_rfl) (by kernel_rfl) (by kernel_rfl) (by first | exact (fun _ _ _ h => h) | exact (fun _ _ _ h => absurd h.1 (by simp))) (by kernel_rfl) (by rfl) (by rintro w' q5; go_simp) (HS.out _ hbd) ?_; go_frame
      refine AnyT.takeD (i := 4) (v := .int .i64 W) rfl rfl (by kernel_rfl) (by kernel_rfl) (by kernel_rfl) (by first | exact (fun _ _ _ h => h) | exact (fun _ _ _ h => absurd h.1 (by simp))) (by kernel_rfl) (by rfl) (by rintro w' q5; go_simp) (HS.out _ hbd) ?_; go_frame
      refine AnyT.takeD (i := 7) (v := .slice (some ⟨b, off, none⟩) n cap) rfl rfl (by kernel_rfl) (by kernel_rfl) (by kernel_rfl) (by first | exact (fun _ _ _ h => h) | exact (fun _ _ _ h => absurd h.1 (by simp))) (by kernel_rfl) (by rfl) (by rintro w' q5; go_simp) (HS.out _ hbd) ?_; go_frame
      refine AnyT.takeD (i := 8) (v := .pointer (some ⟨b, off, none⟩)) rfl rfl (by kernel_rfl) (by kernel_rfl) (by kernel_rfl) (by first | exact (fun _ _ _ h => h) | exact (fun _ _ _ h => absurd h.1 (by simp))) (by kernel_rfl) (by rfl) (by rintro w' q5; go_simp) (HS.out _ hbd) ?_; go_frame
      refine AnyT.takeD (i := 9) (v := .slice ra W rc) rfl rfl (by kernel_rfl) (by kernel_rfl) (by kernel_rfl) (by first | exact (fun _ _ _ h => h) | exact (fun _ _ _ h => absurd h.1 (by simp))) (by kernel_rfl) (by rfl) (by rintro w' q5; go_simp) (HS.out _ hbd) ?_; go_frame
      refine AnyT.takeD (i := 10) (v := .int .i64 W) rfl rfl (by kernel_rfl) (by kernel_rfl) (by kernel_rfl) (by first | exact (fun _ _ _ h => h) | exact (fun _ _ _ h => absurd h.1 (by simp))) (by kernel_rfl) (by rfl) (by rintro w' q5; go_simp) (HS.out _ hbd) ?_; go_frame
      refine AnyT.next (i := 5) (by kernel_rfl) rfl (wpOp_of_list rfl ?_)
      go_wp2_with (go_at_call 70; refine (all_c wd W hW1).mono ?_; rintro e w2 ⟨v, rfl, ho2, hb2⟩; refine Stop.of ?_)
      refine Stop.go ?_
      obtain ⟨va, vc, rfl, hi2, hm2⟩ := ints_of_own ho2 (allI_len W)
      have hbw2 := chain hbd hb2
      have HCH := hid (chosen_c w2 _ n cap M HN.out (by omega) (HRR.out _ hbw2) va W vc (allI W) (allI_len W) hW1 hi2 (fun r hr j hj => by rw [HM.out.wid r hr]; exact allI_mem hj) 80 #[] (enters_of Try.func80 (by kernel_rfl) rfl) (fun _ => []) (none_more w2 n) (fun i _ => ⟨by simp, by simp; omega⟩))
      rw [chosenF_none, cols_all HM.out.wid] at HCH
      clear ho2 hi2 hb2
      go_wp2
      refine ⟨fun _ => HS.out _ hbw2, ?_⟩
      refine AnyT.next (i := 6) (by kernel_rfl) rfl (wpOp_of_list rfl ?_)
      go_wp2_with (go_at_call 79; refine HCH.out.mono ?_; rintro e w3 ⟨v3, rfl, hO3, hb3⟩; refine Stop.of ?_)
      refine Stop.go ?_
      have hbw3 := chain hbw2 hb3
      have HRD := hid (reduce_c w3 w2.heap.size v3 M W (OwnT.of hO3) hb3.size HM.out.wid hW1 (by rw [HN.out]; omega) (by rw [HN.out]; omega) W (Nat.le_refl _) (fun t ht r hr => ⟨(HM.out.bnd ht r hr).1, fun x hx => by have := (HM.out.bnd ht r hr).2 x hx; omega⟩))
      have hbs2 := hbw2.size
      clear hO3 hb3 HCH
      go_wp2
      refine ⟨fun _ => HS.out _ hbw3, ?_⟩
      refine AnyT.next (i := 11) (by kernel_rfl) rfl (wpOp_of_list rfl ?_)
      go_wp2_with (go_at_call 78; refine HRD.out.mono ?_; rintro e w4 ⟨v4, rfl, hO4, hT4, hb4⟩; refine Stop.of ?_)
      refine Stop.go ?_
      have hbw4 : Below w.heap.size w w4 := hbw3.trans (hb4.mono hbs2)
      rw [intsJ_vals] at hO4
      obtain ⟨ja, jc, rfl, hJI, hJm⟩ := ints_of_own hO4 (intsJ_len _)
      have e4 : (pRed M W).2.length = rk := HRK.out.symm
      rw [e4]
      clear hO4 hT4 hb4 hJI hJm e4 HRD
      go_wp2
      refine ⟨fun _ => HS.out _ hbw4, ?_⟩
      refine AnyT.takeD (i := 12) (v := .int .i64 rk) rfl rfl (by kernel_rfl) (by kernel_rfl) (by kernel_rfl) (by first | exact (fun _ _ _ h => h) | exact (fun _ _ _ h => absurd h.1 (by simp))) (by kernel_rfl) (by rfl) (by rintro w' q5; go_simp) (HS.out _ hbw4) ?_; go_frame
      refine AnyT.takeD (i := 13) (v := .int .i64 rk) rfl rfl (by kernel_rfl) (by kernel_rfl) (by kernel_rfl) (by first | exact (fun _ _ _ h => h) | exact (fun _ _ _ h => absurd h.1 (by simp))) (by kernel_rfl) (by rfl) (by rintro w' q5; go_simp) (HS.out _ hbw4) ?_; go_frame
      refine AnyT.takeD (i := 14) (v := .int .i64 0) rfl rfl (by kernel_rfl) (by kernel_rfl) (by kernel_rfl) (by first | exact (fun _ _ _ h => h) | exact (fun _ _ _ h => absurd h.1 (by simp))) (by kernel_rfl) (by rfl) (by rintro w' q5; go_simp) (HS.out _ hbw4) ?_; go_frame
      exact ⟨by kernel_rfl, rfl, .slice (some ⟨b, off, none⟩) n cap, .slice (some ⟨b, off, none⟩) n cap, .pointer (some ⟨b, off, none⟩), .slice ra W rc, .int .i64 W, .slice va W vc, v3, .slice (some ⟨b, off, none⟩) n cap, .pointer (some ⟨b, off, none⟩), .slice ra W rc, .int .i64 W, .slice ja rk jc, (by go_frame), hbw4⟩
    · rintro a5 w5 ⟨v7, v8, v9, v10, v11, v12, v13, v14, v15, v16, v17, v18, rfl, hb5⟩
      go_frame
      go_wp2
      go_ret2
      exact ⟨hb5, .inr ⟨by first | trivial | rfl, rfl⟩⟩
end Go.Proofs.Ytfipebkhomppmaa

namespace Go.Proofs.Ytfipebkhomppmaa
open Go.RowKit
set_option linter.unusedVariables false

def HeadV (W : World) (xs : List Value) (L : List (List Int)) : Prop :=
  xs.length = L.length ∧ ∀ j (hj : j < L.length), ∃ ra rn rc, xs[j]? = some (.slice ra rn rc) ∧ L[j].length = rn ∧ rn ≤ maxLen ∧ IntsAt W ra L[j]
theorem HeadV.nil (W : World) : HeadV W [] [] := ⟨rfl, fun j hj => by simp at hj⟩
theorem HeadV.below {W W' : World} {xs : List Value} {L : List (List Int)} (h : HeadV W xs L) (hb : Below W.heap.size W W') : HeadV W' xs L :=
  ⟨h.1, fun j hj => by obtain ⟨ra, rn, rc, h1, h2, h3, h4⟩ := h.2 j hj; exact ⟨ra, rn, rc, h1, h2, h3, h4.below hb⟩⟩
theorem HeadV.one {W : World} {ra : Option Addr} {rn rc : Nat} {l : List Int} (hn : l.length = rn) (hm : rn ≤ maxLen) (h : IntsAt W ra l) : HeadV W [.slice ra rn rc] [l] :=
  ⟨rfl, fun j hj => by
    obtain rfl : j = 0 := by simp at hj; omega
    exact ⟨ra, rn, rc, rfl, hn, hm, h⟩⟩
theorem HeadV.append {W : World} {xs ys : List Value} {L K : List (List Int)} (h : HeadV W xs L) (k : HeadV W ys K) : HeadV W (xs ++ ys) (L ++ K) := by
  refine ⟨by simp [h.1, k.1], fun j hj => ?_⟩
  by_cases e : j < L.length
  · obtain ⟨ra, rn, rc, h1, h2, h3, h4⟩ := h.2 j e
    refine ⟨ra, rn, rc, by rw [List.getElem?_append_left (by rw [h.1]; exact e)]; exact h1, ?_, h3, ?_⟩
    · rw [List.getElem_append_left e]; exact h2
    · rw [List.getElem_append_left e]; exact h4
  · have hj2 : j - L.length < K.length := by simp at hj; omega
    obtain ⟨ra, rn, rc, h1, h2, h3, h4⟩ := k.2 (j - L.length) hj2
    refine ⟨ra, rn, rc, by rw [List.getElem?_append_right (by rw [h.1]; omega), h.1]; exact h1, ?_, h3, ?_⟩
    · rw [List.getElem_append_right (by omega)]; exact h2
    · rw [List.getElem_append_right (by omega)]; exact h4
theorem rows_of_own {W : World} {base n c : Nat} {T : TypeId} {a : Option Addr} {xs : List Value} {L : List (List Int)} (h : W.ownsRow base T 1 (.slice a n c) n xs) (hv : HeadV W xs L) (hl : L.length = n) : RowsAt W a L := by
  intro j hj
  rcases h.2 with ⟨_, h0⟩ | ⟨g, cap, cur, e, hg, hh, rest⟩
  · omega
  · cases e
    have hlt := (Array.getElem?_eq_some_iff.1 hh).1
    have hc : W.cell? ⟨g, j, none⟩ = xs[j]? := World.ownsRow.cellAt (w := W) (base := base) (e := T) (size := 1) (g := g) (n := n) (cap := c) (xs := xs) h j (by omega)
    obtain ⟨ra, rn, rc, h1, h2, h3, h4⟩ := hv.2 j hj
    exact ⟨g, 0, ra, rn, rc, rfl, hlt, by rw [Nat.zero_add, hc]; exact h1, h2, h3, h4⟩
end Go.Proofs.Ytfipebkhomppmaa

namespace Go.Proofs.Ytfipebkhomppmaa
section
open Go.RowKit
set_option linter.unusedVariables false

def RowS (W : World) (v : Value) (l : List Int) : Prop :=
  (∃ g c, v = .slice (some ⟨g, 0, none⟩) l.length c ∧ SpRow W g l) ∨ (l = [] ∧ ∃ a c, v = .slice a 0 c)
theorem RowS.sl {W : World} {v : Value} {l : List Int} (h : RowS W v l) (hm : l.length ≤ maxLen) : SlV W v l := by
  rcases h with ⟨g, c, rfl, hs⟩ | ⟨rfl, a, c, rfl⟩
  · exact ⟨_, _, _, rfl, rfl, hm, hs.ints⟩
  · exact ⟨_, _, _, rfl, rfl, Nat.zero_le _, fun j hj => by simp at hj⟩
theorem RowS.below {W W' : World} {v : Value} {l : List Int} (h : RowS W v l) (hb : Below W.heap.size W W') : RowS W' v l := by
  rcases h with ⟨g, c, rfl, hs⟩ | h
  · exact .inl ⟨g, c, rfl, hs.keep (hb.block g hs.lt)⟩
  · exact .inr h
def TabS (W : World) (base : Nat) (v : Value) (L : List (List Int)) : Prop :=
  ∃ vs, W.ownsRow base 31 1 v L.length vs ∧ ∀ j (hj : j < L.length), ∃ u, vs[j]? = some u ∧ RowS W u L[j]
theorem TabS.nil (W : World) (base : Nat) : TabS W base (.slice none 0 0) [] := ⟨[], World.ownsRow_nil _ _ _ _, fun j hj => by simp at hj⟩
theorem TabS.below {W W' : World} {base : Nat} {v : Value} {L : List (List Int)} (h : TabS W base v L) (hb : Below W.heap.size W W') : TabS W' base v L := by
  obtain ⟨vs, h1, h2⟩ := h
  refine ⟨vs, own_below h1 hb, fun j hj => ?_⟩
  obtain ⟨u, hu, hr⟩ := h2 j hj
  exact ⟨u, hu, hr.below hb⟩
theorem TabS.rows {W : World} {base n c : Nat} {a : Option Addr} {L : List (List Int)} (h : TabS W base (.slice a n c) L) (hl : L.length = n) (hm : ∀ r ∈ L, r.length ≤ maxLen) : RowsAt W a L := by
  obtain ⟨vs, h1, h2⟩ := h
  rw [hl] at h1
  refine rows_of_own (xs := vs) h1 ⟨by have := h1.1; omega, fun j hj => ?_⟩ hl
  obtain ⟨u, hu, hr⟩ := h2 j hj
  obtain ⟨ra, rn, rc, rfl, e1, e2, e3⟩ := hr.sl (hm _ (List.getElem_mem hj))
  exact ⟨ra, rn, rc, hu, e1, e2, e3⟩
theorem TabS.snoc {W w1 w3 : World} {base : Nat} {v v' u : Value} {L : List (List Int)} {r : List Int} {vs : List Value} (h1 : W.ownsRow base 31 1 v L.length vs)
    (h2 : ∀ j (hj : j < L.length), ∃ u, vs[j]? = some u ∧ RowS W u L[j]) (hb : Below W.heap.size W w1) (hr : RowS w1 u r) (hg : w1.grownBy w3 v.ownBlock)
    (ho' : w3.ownsRow base 31 1 v' (L.length + 1) (vs ++ [u])) : TabS w3 base v' (L ++ [r]) := by
  have hlen : vs.length = L.length := by have := h1.1; omega
  have hown : ∀ b, v.ownBlock = some b → ∃ c f, w1.heap[b]? = some (.cells c 31 f) := by
    intro b hb'
    rcases h1.2 with ⟨rfl, _⟩ | ⟨g, cap, cur, rfl, hbg, hgg, _⟩
    · simp [Value.ownBlock] at hb'
    · obtain rfl : g = b := by simpa [Value.ownBlock] using hb'
      exact ⟨cur, _, (hb.block g (Array.getElem?_eq_some_iff.1 hgg).1).trans hgg⟩
  have hold : ∀ b l, SpRow w1 b l → SpRow w3 b l := by
    intro b l hs
    refine hs.keep (hg.block b hs.lt ?_)
    intro e
    obtain ⟨c, f, hc⟩ := hown b e.symm
    obtain ⟨sp, hs⟩ := hs
    rw [hs] at hc
    simp at hc
  have hup : ∀ u l, RowS w1 u l → RowS w3 u l := by
    rintro u l (⟨g, c, rfl, hs⟩ | h)
    · exact .inl ⟨g, c, rfl, hold _ _ hs⟩
    · exact .inr h
  refine ⟨vs ++ [u], by simpa using ho', fun j hj => ?_⟩
  simp only [List.length_append, List.length_cons, List.length_nil, Nat.zero_add] at hj
  by_cases hjl : j < L.length
  · obtain ⟨u', hu', hr'⟩ := h2 j hjl
    rw [List.getElem_append_left hjl]
    exact ⟨u', by rw [List.getElem?_append_left (by omega)]; exact hu', hup _ _ (hr'.below hb)⟩
  · obtain rfl : j = L.length := by omega
    rw [List.getElem_append_right (Nat.le_refl _)]
    simp only [Nat.sub_self, List.getElem_cons_zero]
    exact ⟨u, by rw [List.getElem?_append_right (by omega), hlen]; simp, hup _ _ hr⟩
theorem TabS.at {W : World} {base n : Nat} {v : Value} {L : List (List Int)} (h : TabS W base v L) (hl : L.length = n) {i : Nat} (hi : i < n) :
    ∃ g0 cap u, v = .slice (some ⟨g0, 0, none⟩) n cap ∧ base ≤ g0 ∧ g0 < W.heap.size ∧ W.cell? ⟨g0, i, none⟩ = some u ∧ RowS W u (L[i]?.getD []) ∧ W.frozen? ⟨g0, i, none⟩ = false ∧
      ∀ u' r, RowS W u' r → TabS (W.setCell ⟨g0, i, none⟩ u') base v (L.set i r) ∧ ∀ k, k ≠ g0 → (W.setCell ⟨g0, i, none⟩ u').heap[k]? = W.heap[k]? := by
  subst hl
  obtain ⟨vs, h1, h2⟩ := h
  obtain ⟨u, hu, hr⟩ := h2 i hi
  rcases h1.2 with ⟨rfl, h0⟩ | ⟨g0, cap, cur, rfl, hbg, hgg, hnc, hcm, hsz, htk⟩
  · omega
  have hcell := World.ownsRow.cellAt (w := W) (base := base) (e := 31) (size := 1) (g := g0) (n := L.length) (cap := cap) (xs := vs) h1 i (by omega)
  have hvl : vs.length = L.length := by have := h1.1; omega
  refine ⟨g0, cap, u, rfl, hbg, (Array.getElem?_eq_some_iff.1 hgg).1, by rw [hcell]; exact hu, by rw [List.getElem?_eq_getElem hi]; exact hr, by simp [World.frozen?, hgg], ?_⟩
  intro u' r hr'
  have hkeep : ∀ k, k ≠ g0 → (W.setCell ⟨g0, i, none⟩ u').heap[k]? = W.heap[k]? := fun k hk => Below.heap_setCell _ _ _ _ hk
  have hup : ∀ u l, RowS W u l → RowS (W.setCell ⟨g0, i, none⟩ u') u l := by
    rintro u l (⟨g, c, rfl, hs⟩ | h)
    · refine .inl ⟨g, c, rfl, hs.keep (hkeep g ?_)⟩
      rintro rfl
      obtain ⟨sp, hs⟩ := hs
      rw [hgg] at hs
      cases hs
    · exact .inr h
  have hb2 : (W.setCell ⟨g0, i, none⟩ u').heap[g0]? = some (.cells (cur.setIfInBounds i u') 31 (0, 0)) := cells_set hgg i u'
  refine ⟨⟨vs.set i u', ⟨by simpa using h1.1, .inr ⟨g0, cap, cur.setIfInBounds i u', by simp, hbg, hb2, by simpa using hnc, hcm, by simpa using hsz, ?_⟩⟩, fun j hj => ?_⟩, hkeep⟩
  · rw [← htk]
    simp only [Array.toList_setIfInBounds, List.length_set, Nat.mul_one]
    rw [List.take_set]
  · have hj' : j < L.length := by simpa using hj
    by_cases e : i = j
    · subst e
      exact ⟨u', by simp [hvl, hj'], by simpa using hup _ _ hr'⟩
    · obtain ⟨u2, hu2, hr2⟩ := h2 j hj'
      exact ⟨u2, by rw [List.getElem?_set_ne e]; exact hu2, by rw [List.getElem_set_ne e]; exact hup _ _ hr2⟩
end

section
open Go.RowKit
set_option linter.unusedVariables false

theorem RowS.slice {W : World} {v : Value} {l : List Int} (h : RowS W v l) : ∃ a c, v = .slice a l.length c := by
  rcases h with ⟨g, c, rfl, _⟩ | ⟨rfl, a, c, rfl⟩
  · exact ⟨_, _, rfl⟩
  · exact ⟨_, _, rfl⟩
end

section
open Go.RowKit
set_option linter.unusedVariables false

def RowN (N : Option Nat) (W : World) (v : Value) (l : List Int) : Prop :=
  (∃ g c, v = .slice (some ⟨g, 0, none⟩) l.length c ∧ SpRow W g l ∧ N ≠ some g) ∨ (l = [] ∧ ∃ a c, v = .slice a 0 c)
theorem RowN.row {N : Option Nat} {W : World} {v : Value} {l : List Int} (h : RowN N W v l) : RowS W v l := by
  rcases h with ⟨g, c, e, hs, _⟩ | h
  · exact .inl ⟨g, c, e, hs⟩
  · exact .inr h
def KeepN (N : Option Nat) (W W' : World) : Prop := ∀ k c, W.heap[k]? = some (.cells c 3 (0, 0)) → N ≠ some k → W'.heap[k]? = W.heap[k]?
theorem RowN.keep {N : Option Nat} {W W' : World} {v : Value} {l : List Int} (h : RowN N W v l) (hk : KeepN N W W') : RowN N W' v l := by
  rcases h with ⟨g, c, e, hs, hne⟩ | h
  · refine .inl ⟨g, c, e, ?_, hne⟩
    obtain ⟨sp, hs'⟩ := id hs
    exact hs.keep (hk g _ hs' hne)
  · exact .inr h
theorem KeepN.below {N : Option Nat} {W W' : World} (hb : Below W.heap.size W W') : KeepN N W W' := fun k c h _ => hb.block k (Array.getElem?_eq_some_iff.1 h).1
def TabN (N : Option Nat) (W : World) (base : Nat) (v : Value) (L : List (List Int)) : Prop :=
  ∃ vs, W.ownsRow base 31 1 v L.length vs ∧ ∀ j (hj : j < L.length), ∃ u, vs[j]? = some u ∧ RowN N W u L[j]
theorem TabN.nil (N : Option Nat) (W : World) (base : Nat) : TabN N W base (.slice none 0 0) [] := ⟨[], World.ownsRow_nil _ _ _ _, fun j hj => by simp at hj⟩
theorem own_kept {W W' : World} {base size n : Nat} {T : TypeId} {v : Value} {xs : List Value} (h : W.ownsRow base T size v n xs) (hk : ∀ k, v.ownBlock = some k → k < W.heap.size → W'.heap[k]? = W.heap[k]?) : W'.ownsRow base T size v n xs := by
  refine ⟨h.1, ?_⟩
  rcases h.2 with hn | ⟨g, cap, cur, rfl, hbg, hgg, rest⟩
  · exact .inl hn
  · exact .inr ⟨g, cap, cur, rfl, hbg, (hk g rfl (Array.getElem?_eq_some_iff.1 hgg).1).trans hgg, rest⟩
theorem own_low {W : World} {base b0 size n : Nat} {T : TypeId} {v : Value} {xs : List Value} (h : W.ownsRow base T size v n xs) (hb : b0 ≤ base) : W.ownsRow b0 T size v n xs := by
  refine ⟨h.1, ?_⟩
  rcases h.2 with hn | ⟨g, cap, cur, rfl, hbg, rest⟩
  · exact .inl hn
  · exact .inr ⟨g, cap, cur, rfl, Nat.le_trans hb hbg, rest⟩
theorem own_type {W : World} {base size n k : Nat} {T : TypeId} {v : Value} {xs : List Value} (h : W.ownsRow base T size v n xs) (hk : v.ownBlock = some k) : base ≤ k ∧ ∃ c, W.heap[k]? = some (.cells c T (0, 0)) := by
  rcases h.2 with ⟨rfl, _⟩ | ⟨g, cap, cur, rfl, hbg, hgg, _⟩
  · simp [Value.ownBlock] at hk
  · obtain rfl : g = k := by simpa [Value.ownBlock] using hk
    exact ⟨hbg, cur, hgg⟩
theorem TabN.type {N : Option Nat} {W : World} {base k : Nat} {v : Value} {L : List (List Int)} (h : TabN N W base v L) (hk : v.ownBlock = some k) : base ≤ k ∧ k < W.heap.size ∧ ∃ c, W.heap[k]? = some (.cells c 31 (0, 0)) := by
  obtain ⟨vs, h1, _⟩ := h
  obtain ⟨h2, c, h3⟩ := own_type h1 hk
  exact ⟨h2, (Array.getElem?_eq_some_iff.1 h3).1, c, h3⟩
theorem TabN.low {N : Option Nat} {W : World} {base b0 : Nat} {v : Value} {L : List (List Int)} (h : TabN N W base v L) (hb : b0 ≤ base) : TabN N W b0 v L := by
  obtain ⟨vs, h1, h2⟩ := h
  exact ⟨vs, own_low h1 hb, h2⟩
theorem TabN.keep {N : Option Nat} {W W' : World} {base : Nat} {v : Value} {L : List (List Int)} (h : TabN N W base v L) (hk : KeepN N W W') (ho : ∀ k, v.ownBlock = some k → k < W.heap.size → W'.heap[k]? = W.heap[k]?) : TabN N W' base v L := by
  obtain ⟨vs, h1, h2⟩ := h
  refine ⟨vs, own_kept h1 ho, fun j hj => ?_⟩
  obtain ⟨u, hu, hr⟩ := h2 j hj
  exact ⟨u, hu, hr.keep hk⟩
theorem TabN.below {N : Option Nat} {W W' : World} {base : Nat} {v : Value} {L : List (List Int)} (h : TabN N W base v L) (hb : Below W.heap.size W W') : TabN N W' base v L :=
  h.keep (KeepN.below hb) fun k _ hk => hb.block k hk
theorem TabN.other {N N' : Option Nat} {W : World} {base : Nat} {v : Value} {L : List (List Int)} (h : TabN N W base v L) (hN : N' = N ∨ N' = some W.heap.size) : TabN N' W base v L := by
  obtain ⟨vs, h1, h2⟩ := h
  refine ⟨vs, h1, fun j hj => ?_⟩
  obtain ⟨u, hu, hr⟩ := h2 j hj
  refine ⟨u, hu, ?_⟩
  rcases hr with ⟨g, c, e, hs, hne⟩ | hr
  · refine .inl ⟨g, c, e, hs, ?_⟩
    rcases hN with rfl | rfl
    · exact hne
    · intro e
      have h1 : W.heap.size = g := by simpa using e
      have := hs.lt
      omega
  · exact .inr hr
theorem TabN.piv {W W' : World} {base b2 n : Nat} {v p p' : Value} {xs : List Value} {L : List (List Int)} (h : TabN p.ownBlock W base v L) (hg : W.grownBy W' p.ownBlock) (hat : p'.ownBlock = p.ownBlock ∨ p'.ownBlock = some W.heap.size)
    (hP : W.ownsRow b2 3 1 p n xs) : TabN p'.ownBlock W' base v L := by
  have h1 : TabN p.ownBlock W' base v L := by
    refine h.keep (fun k c hk hne => hg.block k (Array.getElem?_eq_some_iff.1 hk).1 (fun e => hne e.symm)) fun k hk hlt => hg.block k hlt fun e => ?_
    obtain ⟨_, _, c, hc⟩ := h.type hk
    obtain ⟨_, c2, hc2⟩ := own_type hP e.symm
    rw [hc] at hc2
    cases hc2
  have hlt : ∀ u l, RowN p.ownBlock W u l → RowN p'.ownBlock W' u l := by
    intro u l hr
    rcases hr with ⟨g, c, e, hs, hne⟩ | hr
    · refine .inl ⟨g, c, e, ?_, ?_⟩
      · obtain ⟨sp, hs'⟩ := id hs
        exact hs.keep (hg.block g hs.lt (fun e => hne e.symm))
      · rcases hat with hat | hat
        · rw [hat]; exact hne
        · rw [hat]; intro e
          have h1 : W.heap.size = g := by simpa using e
          have := hs.lt
          omega
    · exact .inr hr
  obtain ⟨vs, h2, h3⟩ := h
  obtain ⟨vs', h4, _⟩ := h1
  refine ⟨vs, own_kept h2 fun k hk hlt' => hg.block k hlt' fun e => ?_, fun j hj => ?_⟩
  · obtain ⟨_, c, hc⟩ := own_type h2 hk
    obtain ⟨_, c2, hc2⟩ := own_type hP e.symm
    rw [hc] at hc2
    cases hc2
  · obtain ⟨u, hu, hr⟩ := h3 j hj
    exact ⟨u, hu, hlt _ _ hr⟩
theorem TabN.beside {N : Option Nat} {W W' : World} {base : Nat} {v : Value} {L : List (List Int)} (h : TabN N W base v L) {g0 : Option Nat} (hk : ∀ k, k < W.heap.size → g0 ≠ some k → W'.heap[k]? = W.heap[k]?)
    (hg : ∀ k, g0 = some k → ∃ c, W.heap[k]? = some (.cells c 31 (0, 0))) (hne : ∀ k, g0 = some k → v.ownBlock ≠ some k) : TabN N W' base v L := by
  refine h.keep (fun k c hc hn => hk k (Array.getElem?_eq_some_iff.1 hc).1 fun e => ?_) fun k hv hlt => hk k hlt fun e => hne k e hv
  obtain ⟨c2, h2⟩ := hg k e
  rw [h2] at hc
  cases hc
theorem TabN.snoc {N : Option Nat} {w1 w3 : World} {base : Nat} {v v' u : Value} {L : List (List Int)} {r : List Int} {vs : List Value} (h1 : w1.ownsRow base 31 1 v L.length vs)
    (h2 : ∀ j (hj : j < L.length), ∃ u, vs[j]? = some u ∧ RowN N w1 u L[j]) (hr : RowN N w1 u r) (hg : w1.grownBy w3 v.ownBlock)
    (ho' : w3.ownsRow base 31 1 v' (L.length + 1) (vs ++ [u])) : TabN N w3 base v' (L ++ [r]) := by
  have hlen : vs.length = L.length := by have := h1.1; omega
  have hK : KeepN N w1 w3 := fun k c hc hn => hg.block k (Array.getElem?_eq_some_iff.1 hc).1 fun e => by
    obtain ⟨_, c2, h2⟩ := own_type h1 e.symm
    rw [h2] at hc
    cases hc
  refine ⟨vs ++ [u], by simpa using ho', fun j hj => ?_⟩
  simp only [List.length_append, List.length_cons, List.length_nil, Nat.zero_add] at hj
  by_cases hjl : j < L.length
  · obtain ⟨u', hu', hr'⟩ := h2 j hjl
    rw [List.getElem_append_left hjl]
    exact ⟨u', by rw [List.getElem?_append_left (by omega)]; exact hu', hr'.keep hK⟩
  · obtain rfl : j = L.length := by omega
    rw [List.getElem_append_right (Nat.le_refl _)]
    simp only [Nat.sub_self, List.getElem_cons_zero]
    exact ⟨u, by rw [List.getElem?_append_right (by omega), hlen]; simp, hr.keep hK⟩
theorem TabN.at {N : Option Nat} {W : World} {base n : Nat} {v : Value} {L : List (List Int)} (h : TabN N W base v L) (hl : L.length = n) {i : Nat} (hi : i < n) :
    ∃ g0 cap u, v = .slice (some ⟨g0, 0, none⟩) n cap ∧ base ≤ g0 ∧ g0 < W.heap.size ∧ (∃ c, W.heap[g0]? = some (.cells c 31 (0, 0))) ∧ W.cell? ⟨g0, i, none⟩ = some u ∧ RowN N W u (L[i]?.getD []) ∧ W.frozen? ⟨g0, i, none⟩ = false ∧
      ∀ u' r, RowN N W u' r → TabN N (W.setCell ⟨g0, i, none⟩ u') base v (L.set i r) ∧ ∀ k, k ≠ g0 → (W.setCell ⟨g0, i, none⟩ u').heap[k]? = W.heap[k]? := by
  subst hl
  obtain ⟨vs, h1, h2⟩ := h
  obtain ⟨u, hu, hr⟩ := h2 i hi
  rcases h1.2 with ⟨rfl, h0⟩ | ⟨g0, cap, cur, rfl, hbg, hgg, hnc, hcm, hsz, htk⟩
  · omega
  have hcell := World.ownsRow.cellAt (w := W) (base := base) (e := 31) (size := 1) (g := g0) (n := L.length) (cap := cap) (xs := vs) h1 i (by omega)
  have hvl : vs.length = L.length := by have := h1.1; omega
  refine ⟨g0, cap, u, rfl, hbg, (Array.getElem?_eq_some_iff.1 hgg).1, ⟨cur, hgg⟩, by rw [hcell]; exact hu, by rw [List.getElem?_eq_getElem hi]; exact hr, by simp [World.frozen?, hgg], ?_⟩
  intro u' r hr'
  have hkeep : ∀ k, k ≠ g0 → (W.setCell ⟨g0, i, none⟩ u').heap[k]? = W.heap[k]? := fun k hk => Below.heap_setCell _ _ _ _ hk
  have hK : KeepN N W (W.setCell ⟨g0, i, none⟩ u') := fun k c hc hn => hkeep k fun e => by
    subst e
    rw [hgg] at hc
    cases hc
  have hb2 : (W.setCell ⟨g0, i, none⟩ u').heap[g0]? = some (.cells (cur.setIfInBounds i u') 31 (0, 0)) := cells_set hgg i u'
  refine ⟨⟨vs.set i u', ⟨by simpa using h1.1, .inr ⟨g0, cap, cur.setIfInBounds i u', by simp, hbg, hb2, by simpa using hnc, hcm, by simpa using hsz, ?_⟩⟩, fun j hj => ?_⟩, hkeep⟩
  · rw [← htk]
    simp only [Array.toList_setIfInBounds, List.length_set, Nat.mul_one]
    rw [List.take_set]
  · have hj' : j < L.length := by simpa using hj
    by_cases e : i = j
    · subst e
      exact ⟨u', by simp [hvl, hj'], by simpa using hr'.keep hK⟩
    · obtain ⟨u2, hu2, hr2⟩ := h2 j hj'
      exact ⟨u2, by rw [List.getElem?_set_ne e]; exact hu2, by rw [List.getElem_set_ne e]; exact hr2.keep hK⟩
end

section
open Go.RowKit
set_option linter.unusedVariables false

def castL (l : List Nat) : List Int := l.map (fun j : Nat => (j : Int))
def RedI (w wr : World) (L : List (List Int)) (j : Nat) (l d p : Value) : Prop :=
  TabN p.ownBlock wr w.heap.size l (rRed L j).left ∧ TabN p.ownBlock wr w.heap.size d (rRed L j).done ∧ wr.ownsRow w.heap.size 3 1 p (rRed L j).piv.length ((castL (rRed L j).piv).map (Value.int .i64)) ∧ Below w.heap.size w wr
structure RedS (w : World) (R0 : Nat) (wr : World) (l d r q p : Value) (left done rest : List (List Int)) (P : List Int) (J : List Nat) : Prop where
  hl : TabN p.ownBlock wr w.heap.size l left
  hd : TabN p.ownBlock wr w.heap.size d done
  hr : TabN p.ownBlock wr R0 r rest
  hq : RowN p.ownBlock wr q P
  hp : wr.ownsRow w.heap.size 3 1 p J.length ((castL J).map (Value.int .i64))
  hb : Below w.heap.size w wr
  hR : R0 ≤ wr.heap.size
  hw : w.heap.size ≤ R0
  lR : ∀ k, l.ownBlock = some k → k < R0
  dR : ∀ k, d.ownBlock = some k → k < R0
  pR : ∀ k, p.ownBlock = some k → k < R0
theorem RedS.below {w : World} {R0 : Nat} {A B : World} {l d r q p : Value} {left done rest : List (List Int)} {P : List Int} {J : List Nat} (h : RedS w R0 A l d r q p left done rest P J) (hb : Below A.heap.size A B) : RedS w R0 B l d r q p left done rest P J :=
  ⟨h.hl.below hb, h.hd.below hb, h.hr.below hb, h.hq.keep (KeepN.below hb), own_below h.hp hb, chain h.hb hb, Nat.le_trans h.hR hb.size, h.hw, h.lR, h.dR, h.pR⟩
theorem TabN.lt {N : Option Nat} {W : World} {base : Nat} {v : Value} {L : List (List Int)} (h : TabN N W base v L) {k : Nat} (hk : v.ownBlock = some k) : k < W.heap.size := (h.type hk).2.1
theorem RedS.start {w wr : World} {L : List (List Int)} {j : Nat} {l d p q : Value} {P : List Int} (h : RedI w wr L j l d p) (hq : RowN p.ownBlock wr q P) : RedS w wr.heap.size wr l d (.slice none 0 0) q p (rRed L j).left (rRed L j).done [] P (rRed L j).piv :=
  ⟨h.1, h.2.1, TabN.nil _ _ _, hq, h.2.2.1, h.2.2.2, Nat.le_refl _, h.2.2.2.size, fun k hk => h.1.lt hk, fun k hk => h.2.1.lt hk, fun k hk => by
    obtain ⟨_, c, hc⟩ := own_type h.2.2.1 hk
    exact (Array.getElem?_eq_some_iff.1 hc).1⟩
theorem RedS.store {w : World} {R0 : Nat} {A : World} {l d r q p u : Value} {left done rest : List (List Int)} {P x : List Int} {J : List Nat} {i n : Nat} (h : RedS w R0 A l d r q p left done rest P J) (hn : done.length = n) (hi : i < n) (hu : RowN p.ownBlock A u x) :
    ∃ g0 cap v, d = .slice (some ⟨g0, 0, none⟩) n cap ∧ A.cell? ⟨g0, i, none⟩ = some v ∧ A.frozen? ⟨g0, i, none⟩ = false ∧ RedS w R0 (A.setCell ⟨g0, i, none⟩ u) (.slice none 0 0) d r q p [] (done.set i x) rest P J := by
  obtain ⟨g0, cap, v, rfl, hb0, hlt, hty, hc, hrow, hf, hset⟩ := h.hd.at hn hi
  refine ⟨g0, cap, v, rfl, hc, hf, ?_⟩
  obtain ⟨hT, hk⟩ := hset u x hu
  have hk' : ∀ k, k < A.heap.size → some g0 ≠ some k → (A.setCell ⟨g0, i, none⟩ u).heap[k]? = A.heap[k]? := fun k _ hne => hk k fun e => hne (by rw [e])
  have hgt : ∀ k, some g0 = some k → ∃ c, A.heap[k]? = some (.cells c 31 (0, 0)) := fun k e => by cases e; exact hty
  have hlt0 : g0 < R0 := h.dR g0 rfl
  refine ⟨TabN.nil _ _ _, hT, h.hr.beside hk' hgt fun k e e2 => ?_, h.hq.keep fun k c hc _ => hk' k (Array.getElem?_eq_some_iff.1 hc).1 fun e => ?_, own_kept h.hp fun k e hlt2 => hk' k hlt2 fun e2 => ?_, ?_, by simpa using h.hR, h.hw, fun k hk => by simp [Value.ownBlock] at hk, h.dR, h.pR⟩
  · cases e
    have := (h.hr.type e2).1
    omega
  · obtain ⟨c2, h2⟩ := hgt k e
    rw [h2] at hc; cases hc
  · cases e2
    obtain ⟨c, hc⟩ := hty
    obtain ⟨_, c2, h2⟩ := own_type h.hp e
    rw [h2] at hc; cases hc
  · exact (Keep.set A g0 i u).below h.hb (Nat.le_trans h.hw h.hR) fun k hk e => by omega
end
end Go.Proofs.Ytfipebkhomppmaa

namespace Go.Proofs.Ytfipebkhomppmaa
open Go.RowKit
set_option linter.unusedVariables false

theorem RowN.sp {N : Option Nat} {X : World} {g n c : Nat} {P : List Int} (h : RowN N X (.slice (some ⟨g, 0, none⟩) n c) P) (h0 : 0 < P.length) : SpRow X g P := by
  rcases h with ⟨g', c', e, hs, _⟩ | ⟨rfl, _⟩
  · cases e; exact hs
  · simp at h0
theorem RedS.drop {w : World} {R0 : Nat} {A : World} {l d r q p : Value} {left done rest : List (List Int)} {P : List Int} {J : List Nat} (h : RedS w R0 A l d r q p left done rest P J) : RedS w R0 A (.slice none 0 0) d r q p [] done rest P J :=
  ⟨TabN.nil _ _ _, h.hd, h.hr, h.hq, h.hp, h.hb, h.hR, h.hw, fun k hk => by simp [Value.ownBlock] at hk, h.dR, h.pR⟩

end Go.Proofs.Ytfipebkhomppmaa

namespace Go.Proofs.Ytfipebkhomppmaa
open Go.RowKit
set_option linter.unusedVariables false

theorem pwithin_c (n lo hi : Int) (w : World) : Calls Try.prog 128 #[.int .i64 n, .int .i64 lo, .int .i64 hi] w fun e w' => e = .returned (.bool (inB n lo hi)) ∧ w = w' := by
  by_cases h1 : lo ≤ n <;> by_cases h2 : n ≤ hi
  all_goals
    go_enter Try.func128, Try.ntmps128
    go_wp2
    go_ret
    exact ⟨ret_bool (by simp [inB, h1, h2]), rfl⟩

theorem beyond1 (w : World) (b : Nat) (m : Int) (hm : 0 ≤ m ∧ m ≤ 1000000000) (hc : w.cell? ⟨b, 0, none⟩ = some (.int .i64 m)) (hb : b < w.heap.size) :
    PredI Try.prog 127 #[.pointer (some ⟨b, 0, none⟩)] w (fun n => !(inB n (-m) m)) := by
  intro x W hW
  have hc' : W.cell? ⟨b, 0, none⟩ = some (.int .i64 m) := (hW.cell (p := ⟨b, 0, none⟩) hb).trans hc
  obtain ⟨z, hz⟩ : ∃ z, z = -m := ⟨_, rfl⟩
  have hw : IntKind.i64.wrap (-m) = z := by rw [hz]; exact IntWalk.i64_in _ (by omega)
  rw [← hz]
  obtain ⟨B, hB⟩ : ∃ B, B = inB x z m := ⟨_, rfl⟩
  have HP := hid (pwithin_c x z m W)
  rw [← hB] at HP
  simp only [← hB]
  clear hB hc hz
  show Calls Try.prog 127 #[.int .i64 x, .pointer (some ⟨b, 0, none⟩)] W _
  go_enter Try.func127, Try.ntmps127
  go_wp2_with (go_at_call 128; refine HP.out.mono ?_; rintro e w1 ⟨rfl, rfl⟩)
  go_ret
  exact ⟨rfl, Below.refl _ _⟩

def milB (l : List Int) : Bool := l.all (fun n => inB n (-1000000) 1000000)

end Go.Proofs.Ytfipebkhomppmaa

namespace Go.Proofs.Ytfipebkhomppmaa
open Go.RowKit
set_option linter.unusedVariables false

theorem any_mil (h : List Int) : h.any (fun n => !(inB n (-1000000) 1000000)) = !milB h := by unfold milB; rw [List.not_all_eq_any_not]
theorem beyond_c (w : World) (m : Int) : Calls Try.prog 72 #[.int .i64 m] w fun e w' => ∃ b, e = .returned (.func (.func 127) #[] #[.pointer (some ⟨b, 0, none⟩)]) ∧ w'.cell? ⟨b, 0, none⟩ = some (.int .i64 m) ∧ b < w'.heap.size ∧ Below w.heap.size w w' := by
  go_enter Try.func72, Try.ntmps72
  go_wp2
  go_ret
  exact ⟨w.heap.size, rfl, by rw [World.cell?_alloc_at _ _ _ _ rfl]; rfl, by simp, (Below.refl _ _).alloc (Nat.le_refl _) _⟩

end Go.Proofs.Ytfipebkhomppmaa

namespace Go.Proofs.Ytfipebkhomppmaa
open Go.RowKit
set_option linter.unusedVariables false

theorem mil_le {h : List Int} (e : milB h = true) : ∀ x ∈ h, -1000000 ≤ x ∧ x ≤ 1000000 := by
  intro x hx
  have := List.all_eq_true.1 e x hx
  unfold inB at this
  simp only [Bool.and_eq_true, decide_eq_true_eq] at this
  omega
end Go.Proofs.Ytfipebkhomppmaa

namespace Go.Proofs.Ytfipebkhomppmaa
set_option linter.unusedVariables false

theorem upF_get : ∀ (m : Nat) (a : Int) (j : Nat), j < m → (upF a m)[j]? = some (a + j)
  | 0, _, _, h => by omega
  | m + 1, a, 0, _ => by simp [upF]
  | m + 1, a, j + 1, h => by
    show (upF (a + 1) m)[j]? = _
    rw [upF_get m (a + 1) j (by omega)]; congr 1; omega
theorem upF_snoc : ∀ (m : Nat) (a : Int), upF a (m + 1) = upF a m ++ [a + m]
  | 0, a => by simp [upF]
  | m + 1, a => by
    show a :: upF (a + 1) (m + 1) = a :: (upF (a + 1) m ++ _)
    rw [upF_snoc m (a + 1)]
    congr 3; omega
theorem upF_range (m : Nat) : ∀ a : Nat, upF (a : Int) m = (List.range' a m).map (fun j : Nat => (j : Int)) := by
  induction m with
  | zero => intro a; rfl
  | succ m ih =>
    intro a
    show (a : Int) :: upF ((a : Int) + 1) m = _
    have := ih (a + 1)
    rw [show ((a : Int) + 1) = ((a + 1 : Nat) : Int) by omega, this]
    simp [List.range'_succ]

def TailAt (n k : Nat) (x : List Int) (m : Nat) : Prop := ∀ j, m ≤ j → j < k → x[j]? = some ((n : Int) - k + j)

theorem tail_le {n k m : Nat} {x : List Int} (hl : x.length = k) (hp : x.Pairwise (· < ·)) (hb : ∀ y ∈ x, y < (n : Int)) (hm : m < k) (ht : TailAt n k x (m + 1)) : x[m]?.getD 0 ≤ (n : Int) - k + m := by
  have hml : m < x.length := by omega
  rw [List.getElem?_eq_getElem hml]
  by_cases e : m + 1 = k
  · have := hb _ (List.getElem_mem hml); simp; omega
  · have h1 := ht (m + 1) (Nat.le_refl _) (by omega)
    have hml1 : m + 1 < x.length := by omega
    rw [List.getElem?_eq_getElem hml1] at h1
    have h2 := List.pairwise_iff_getElem.1 hp m (m + 1) hml hml1 (by omega)
    have h3 := Option.some.inj h1
    simp; omega
theorem tail_step {n k m : Nat} {x : List Int} (hl : x.length = k) (hm : m < k) (ht : TailAt n k x (m + 1)) (he : x[m]?.getD 0 = (n : Int) - k + m) : TailAt n k x m := by
  intro j h1 h2
  by_cases e : j = m
  · subst e
    rw [List.getElem?_eq_getElem (by omega)] at he ⊢
    rw [← he]; rfl
  · exact ht j (by omega) h2
theorem tail_drop {n k m : Nat} {x : List Int} (hl : x.length = k) (hk : k ≤ n) (hm : m ≤ k) (ht : TailAt n k x m) : x.drop m = upF ((n : Int) - (k - m : Nat)) (k - m) := by
  apply List.ext_getElem?
  intro j
  rw [List.getElem?_drop]
  rcases Nat.lt_or_ge j (k - m) with h | h
  · rw [ht (m + j) (by omega) (by omega), upF_get _ _ _ h]; congr 1; omega
  · rw [List.getElem?_eq_none (by omega), List.getElem?_eq_none (by rw [upF_len]; omega)]

theorem next_none {n k : Nat} {x : List Int} (hl : x.length = k) (hk : k ≤ n) (ht : TailAt n k x 0) : nextS n x = none := by
  have := tail_drop hl hk (Nat.zero_le _) ht
  rw [List.drop_zero, Nat.sub_zero] at this
  rw [this]
  exact nextS_up k _ (by omega)
def fillS (x : List Int) (m j : Nat) : List Int := x.take m ++ upF (x[m]?.getD 0 + 1) (j - m) ++ x.drop j
theorem fillS_len {x : List Int} {m j : Nat} (h1 : m ≤ j) (h2 : j ≤ x.length) : (fillS x m j).length = x.length := by
  unfold fillS; simp [upF_len]; omega
theorem fillS_get {x : List Int} {m j : Nat} (h1 : m < j) (h2 : j ≤ x.length) : (fillS x m j)[j - 1]?.getD 0 = x[m]?.getD 0 + (j - m : Nat) := by
  unfold fillS
  rw [List.getElem?_append_left (by simp [upF_len]; omega), List.getElem?_append_right (by simp; omega)]
  simp only [List.length_take]
  rw [show j - 1 - min m x.length = j - m - 1 by omega, upF_get _ _ _ (by omega)]
  simp; omega
theorem fillS_set {x : List Int} {m j : Nat} (h1 : m ≤ j) (h2 : j < x.length) : (fillS x m j).set j (x[m]?.getD 0 + (j + 1 - m : Nat)) = fillS x m (j + 1) := by
  unfold fillS
  have hl : (x.take m ++ upF (x[m]?.getD 0 + 1) (j - m)).length = j := by simp [upF_len]; omega
  rw [List.set_append_right _ _ (by omega), hl, Nat.sub_self, List.drop_eq_getElem_cons h2, List.set_cons_zero, show j + 1 - m = (j - m) + 1 by omega, upF_snoc]
  simp
  omega
theorem fillS_start {x : List Int} {m : Nat} (hm : m < x.length) : x.set m (x[m]?.getD 0 + 1) = fillS x m (m + 1) := by
  have := fillS_set (x := x) (m := m) (j := m) (Nat.le_refl _) hm
  rw [show m + 1 - m = 1 by omega] at this
  unfold fillS at this ⊢
  rw [← this]
  simp [upF]
theorem fillS_done {n k m : Nat} {x : List Int} (hl : x.length = k) (hk : k ≤ n) (hm : m < k) (ht : TailAt n k x (m + 1)) (hlt : x[m]?.getD 0 < (n : Int) - k + m) : nextS n x = some (fillS x m k) := by
  have h1 := tail_drop hl hk (by omega) ht
  have hml : m < x.length := by omega
  have hx : x = x.take m ++ x[m] :: upF ((n : Int) - (k - (m + 1) : Nat)) (k - (m + 1)) := by
    rw [← h1, ← List.drop_eq_getElem_cons hml, List.take_append_drop]
  have hd : x[m]?.getD 0 = x[m] := by rw [List.getElem?_eq_getElem hml]; rfl
  rw [hd] at hlt
  have h2 := nextS_at (n := (n : Int)) (m := k - (m + 1)) (d := x[m]) (by omega) (x.take m)
  rw [← hx] at h2
  rw [h2]
  unfold fillS
  rw [hd, List.drop_eq_nil_of_le (by omega), List.append_nil, show k - (m + 1) + 1 = k - m by omega]

theorem take_snoc_at {α : Type} {l : List α} {i : Nat} {x : α} (h : l[i]? = some x) : l.take i ++ [x] = l.take (i + 1) := by
  obtain ⟨hi, rfl⟩ := List.getElem?_eq_some_iff.1 h
  rw [List.take_succ_eq_append_getElem hi]
theorem take_all_at {α : Type} {l : List α} {i : Nat} {x : α} (h : l[i]? = some x) (hn : l[i + 1]? = none) : l.take (i + 1) = l := by
  exact List.take_of_length_le (List.getElem?_eq_none_iff.1 hn)
end Go.Proofs.Ytfipebkhomppmaa

namespace Go.Proofs.Ytfipebkhomppmaa
open Go.RowKit
set_option linter.unusedVariables false
attribute [local go_sem] Oper.semAt_some

theorem allI_upF (n : Nat) : allI n = upF 0 n := by
  have := upF_range n 0
  rw [show ((0 : Nat) : Int) = 0 from rfl] at this
  rw [this]
  unfold allI
  rw [List.range_eq_range']

set_option maxRecDepth 100000 in
set_option maxHeartbeats 4000000 in
theorem iter_sets (w0 : World) (n k kb nb : Nat) (hn : n ≤ 1000) (hk : k ≤ 1000) (hk1 : 1 ≤ k) (hkb : kb < w0.heap.size) (hnb : nb < w0.heap.size) (hf0 : w0.cell? ⟨kb, 0, none⟩ = some (.int .i64 k)) (hf1 : w0.cell? ⟨nb, 0, none⟩ = some (.int .i64 n)) :
    IterInts Try.prog 3 115 #[.pointer (some ⟨kb, 0, none⟩), .pointer (some ⟨nb, 0, none⟩)] (comb n k 0) (fun q => q = kb ∨ q = nb) w0 := by
  obtain ⟨xs, hxs⟩ : ∃ xs, xs = comb n k 0 := ⟨_, rfl⟩
  have hfacts : ∀ x ∈ xs, x.length = k ∧ x.Pairwise (· < ·) ∧ (∀ y ∈ x, y < (n : Int)) ∧ ∀ j : Nat, (0 : Int) ≤ x[j]?.getD 0 := fun x hx => by
    rw [hxs] at hx
    obtain ⟨h1, h2⟩ := comb_asc n k 0 x hx
    exact ⟨comb_len n k 0 x hx, h1, fun y hy => by have := (h2 y hy).2; omega, fun j => by
      rcases Nat.lt_or_ge j x.length with h | h
      · rw [List.getElem?_eq_getElem h]; have := (h2 _ (List.getElem_mem h)).1; simp; omega
      · rw [List.getElem?_eq_none h]; simp⟩
  have hchn : Chn n none xs := by rw [hxs]; have := comb_chn n k 0; rwa [Int.zero_add] at this
  have hhead : k ≤ n → xs[0]? = some (upF 0 k) := fun hkn => by
    rw [hxs]
    obtain ⟨t, ht⟩ := comb_head n k 0 hkn
    rw [ht]; rfl
  have hnil : ¬ k ≤ n → xs = [] := fun h => by rw [hxs]; exact comb_none n k 0 (by omega)
  rw [← hxs]
  have HF := hid hfacts
  have HC := hid hchn
  have HH := hid hhead
  have HNL := hid hnil
  clear hfacts hchn hhead hnil hxs
  intro l J Jx W hb hJ hY h0
  have hg0 : W.cell? ⟨kb, 0, none⟩ = some (.int .i64 k) := (hb.cell (p := ⟨kb, 0, none⟩) hkb).trans hf0
  have hg1 : W.cell? ⟨nb, 0, none⟩ = some (.int .i64 n) := (hb.cell (p := ⟨nb, 0, none⟩) hnb).trans hf1
  have hkW : kb < W.heap.size := Nat.lt_of_lt_of_le hkb hb.size
  have hnW : nb < W.heap.size := Nat.lt_of_lt_of_le hnb hb.size
  have HJ := hid hJ
  have HY := hid hY
  have H0 := hid h0
  have HALL := hid (all_c W k hk)
  clear hJ hY h0 hf0 hf1 hb
  refine callsIn_of_wp Try.func115 rfl trivial ?_ rfl
  simp only [Try.ntmps115, List.size_toArray, List.length_cons, List.length_nil, Nat.reduceAdd, Nat.reduceSub, Array.replicate_succ, Array.replicate_zero, List.push_toArray, List.append_toArray, List.nil_append, List.cons_append]
  gi_wp2_with (refine ⟨trivial, rfl, ?_⟩; gi_at_call 70; refine (callsIn_wide.2 HALL.out).mono ?_; rintro e w1 ⟨v, rfl, ho1, hb1⟩; refine Stop.of ?_)
  refine Stop.go ?_
  obtain ⟨it, cap, rfl, hit, hr1⟩ := spRow_own ho1 (allI_len k) hk1
  rw [allI_upF] at hr1
  have hJ1 : J it [] w1 := HJ.out it _ _ _ hit (H0.out it hit) (Keep.of_below hb1)
  have hkb1 := hb1.block kb hkW
  have hnb1 := hb1.block nb hnW
  have hs1 := hb1.size
  clear ho1 HALL
  by_cases hkn : k ≤ n
  · have hhead := HH.out hkn
    have hit1 := hr1.lt
    have HIT := hid hit
    clear hit
    gi_wp2
    gi_loopg [] xs.length (fun (g : Nat) wr => ∃ (i : Nat) (x : List Int), g = xs.length - i ∧ xs[i]? = some x ∧ J it (xs.take i) wr ∧ SpRow wr it x ∧ wr.heap[kb]? = W.heap[kb]? ∧ wr.heap[nb]? = W.heap[nb]? ∧ W.heap.size ≤ wr.heap.size)
    case atStart => exact ⟨0, upF 0 k, by omega, hhead, by rw [List.take_zero]; exact hJ1, hr1, hkb1, hnb1, hs1⟩
    case round =>
      obtain ⟨i, x, rfl, hx, hJk, hrk, hfk, hfn, hsz⟩ := hrel
      have hxm : x ∈ xs := List.mem_of_getElem? hx
      obtain ⟨hxl, hxp, hxb, hxn⟩ := HF.out x hxm
      have hil : i < xs.length := (List.getElem?_eq_some_iff.1 hx).1
      obtain ⟨sp, hrow⟩ := hrk
      have hyk := HY.out it (xs.take i) x cap sp wr (by rw [take_snoc_at hx]; exact List.take_prefix _ _) HIT.out (Array.getElem?_eq_some_iff.1 hrow).1 hJk hrow
      rw [hxl, take_snoc_at hx] at hyk
      have hw0 : wr.cell? ⟨kb, 0, none⟩ = some (.int .i64 k) := (World.cell?_of_block (a := ⟨kb, 0, none⟩) hfk).trans hg0
      have hw1 : wr.cell? ⟨nb, 0, none⟩ = some (.int .i64 n) := (World.cell?_of_block (a := ⟨nb, 0, none⟩) hfn).trans hg1
      have hkn' : (k : Int) ≤ (n : Int) := by omega
      have HRK := hid (show SpRow wr it x from ⟨sp, hrow⟩)
      have HFK := hid hfk
      have HFN := hid hfn
      have HX := hid hx
      have HXL := hid hxl
      have HXP := hid hxp
      have HXB := hid hxb
      have HXN := hid hxn
      clear hrow hJk hfk hfn hx hxm hxl hxp hxb hxn hhead hJ1 hr1 hkb1 hnb1
      obtain ⟨fn, tmps, assign, body, hy, hR⟩ := hyk
      gi_wp2
      refine ⟨rfl, hR.mono ?_⟩
      clear hR hy
      rintro e W3 (⟨rfl, hJ3, hs3, hk3⟩ | ⟨rfl, hJx⟩)
      · have hr3 : SpRow W3 it x := HRK.out.keep (hk3 it (Or.inr rfl))
        have hfk3 : W3.heap[kb]? = W.heap[kb]? := (hk3 kb (Or.inl (Or.inl rfl))).trans HFK.out
        have hfn3 : W3.heap[nb]? = W.heap[nb]? := (hk3 nb (Or.inl (Or.inr rfl))).trans HFN.out
        have hg30 : W3.cell? ⟨kb, 0, none⟩ = some (.int .i64 k) := (World.cell?_of_block (a := ⟨kb, 0, none⟩) hfk3).trans hg0
        have hg31 : W3.cell? ⟨nb, 0, none⟩ = some (.int .i64 n) := (World.cell?_of_block (a := ⟨nb, 0, none⟩) hfn3).trans hg1
        have HR3 := hid hr3
        have HK3 := hid hfk3
        have HN3 := hid hfn3
        have HJ3 := hid hJ3
        clear hr3 hfk3 hfn3 hJ3 hk3 hw0 hw1 HRK HFK HFN
        gi_wp2
        gi_loopw [5] (fun i5 wi => ∃ i0 : Int, i5 = .int .i64 i0 ∧ -1 ≤ i0 ∧ i0 < k ∧ TailAt n k x (i0 + 1).toNat ∧ Below W3.heap.size W3 wi) (fun i5 _ => (intOf i5 + 1).toNat)
        case atStart =>
          refine ⟨k - 1, by first | rfl | (congr 1), by omega, by omega, ?_, Below.refl _ _⟩
          intro j h1 h2
          omega
        case round =>
          obtain ⟨i0, rfl, hi1, hi2, hT, hbi⟩ := hrel
          have hgk : wr.cell? ⟨kb, 0, none⟩ = some (.int .i64 k) := (hbi.cell (p := ⟨kb, 0, none⟩) (by show kb < _; omega)).trans hg30
          have hgn : wr.cell? ⟨nb, 0, none⟩ = some (.int .i64 n) := (hbi.cell (p := ⟨nb, 0, none⟩) (by show nb < _; omega)).trans hg31
          have hri := HR3.out.keep (hbi.block it HR3.out.lt)
          have HBI := hid hbi
          clear hbi
          by_cases h0 : 0 ≤ i0
          · obtain ⟨m, rfl⟩ := Int.eq_ofNat_of_zero_le h0
            have e1 : ((m : Int) + 1).toNat = m + 1 := by omega
            rw [e1] at hT
            have hmk : m < k := by omega
            have hle := tail_le HXL.out HXP.out HXB.out hmk hT
            have hc : wr.cell? ⟨it, m, none⟩ = some (.int .i64 (x[m]?.getD 0)) := hri.cell (by rw [HXL.out]; exact hmk)
            have hw1 : wrap64 ((n : Int) - k) = (n : Int) - k := by unfold wrap64; omega
            have hw2 : wrap64 ((n : Int) - k + m) = (n : Int) - k + m := by unfold wrap64; omega
            have hz := hri.frozen m
            have hlt3 := hri.lt
            have HRI := hid hri
            clear hri
            have hm0 : (0 : Int) ≤ (m : Int) := by omega
            have hm1 : (m : Int) < (k : Int) := by omega
            have HT := hid hT
            by_cases he : x[m]?.getD 0 = (n : Int) - k + m
            · have hst := tail_step HXL.out hmk hT he
              have hbe : (x[m]?.getD 0 == (n : Int) - k + m) = true := by simpa using he
              have HST := hid hst
              clear he hst hT hle
              gi_wp2
              gi_quiet (fail)
              gi_wp2
              refine ⟨⟨(m : Int) - 1, rfl, by omega, by omega, ?_, below_drewN HBI.out nq⟩, ?_⟩
              · rw [show ((m : Int) - 1 + 1).toNat = m by omega]; exact HST.out
              · simp [intOf]
            · have hbe : (x[m]?.getD 0 == (n : Int) - k + m) = false := by simpa using he
              have hlt : x[m]?.getD 0 < (n : Int) - k + m := by omega
              have HLT := hid hlt
              clear he hT hle hlt
              gi_wp2
              gi_quiet (fail)
              have HRQ := hid (show SpRow (wr.drewN nq) it x from HRI.out)
              have HBQ := hid (below_drewN HBI.out nq)
              have hgk2 : (wr.drewN nq).cell? ⟨kb, 0, none⟩ = some (.int .i64 k) := hgk
              have hc2 : (wr.drewN nq).cell? ⟨it, m, none⟩ = some (.int .i64 (x[m]?.getD 0)) := hc
              have hz2 : (wr.drewN nq).frozen? ⟨it, m, none⟩ = false := hz
              have hlt2 : it < (wr.drewN nq).heap.size := hlt3
              clear HRI HBI hgk hgn hc hz hlt3
              generalize wr.drewN nq = w4 at HRQ HBQ hgk2 hc2 hz2 hlt2 ⊢
              have hv : wrap64 (x[m]?.getD 0 + 1) = x[m]?.getD 0 + 1 := by
                have h1 := HLT.out
                have h2 : (0 : Int) ≤ x[m]?.getD 0 := HXN.out m
                unfold wrap64; omega
              have HV := hid hv
              clear hv
              have HKS := hid (HRQ.out.set m (by rw [HXL.out]; exact hmk) (x[m]?.getD 0 + 1))
              rw [fillS_start (by rw [HXL.out]; exact hmk)] at HKS
              have HW9 := hid (show wrap64 ((m : Int) + 1) = ((m + 1 : Nat) : Int) by unfold wrap64; omega)
              gi_wp2
              gi_loopw [6] (fun v wj => ∃ j : Nat, m + 1 ≤ j ∧ j ≤ k ∧ v = .int .i64 j ∧ SpRow wj it (fillS x m j) ∧ Keep (fun q => q ≠ it) w4 wj) (fun v _ => k - (intOf v).toNat)
              case atStart => exact ⟨m + 1, Nat.le_refl _, by omega, by rw [show ((m : Int) + 1) = ((m + 1 : Nat) : Int) by omega], by have h := HKS.out; with_reducible (first | (rw [HV.out]; exact h) | exact h), Keep.set _ _ _ _⟩
              case round =>
                obtain ⟨j, hj1, hj2, rfl, hrj, hkj⟩ := hrel
                have hgj : wr.cell? ⟨kb, 0, none⟩ = some (.int .i64 k) := hkj.cell hgk2 (by have := HIT.out; omega)
                by_cases hjk : j < k
                · have hlen := fillS_len (m := m) (j := j) (x := x) (by omega) (show j ≤ x.length by rw [HXL.out]; omega)
                  have hget := fillS_get (x := x) (show m < j by omega) (by rw [HXL.out]; omega)
                  have hset := fillS_set (x := x) (show m ≤ j by omega) (by rw [HXL.out]; omega)
                  have hcj := hrj.cell (j := j - 1) (by rw [hlen, HXL.out]; omega)
                  rw [hget] at hcj
                  have hzj := hrj.frozen j
                  have hcj2 := hrj.cell (j := j) (by rw [hlen, HXL.out]; exact hjk)
                  obtain ⟨u, hu⟩ : ∃ u, u = (fillS x m j)[j]?.getD 0 := ⟨_, rfl⟩
                  rw [← hu] at hcj2
                  have hltj := hrj.lt
                  have hwj : wrap64 ((j : Int) - 1) = ((j - 1 : Nat) : Int) := by unfold wrap64; omega
                  have hwv : wrap64 (x[m]?.getD 0 + ((j - m : Nat) : Int) + 1) = x[m]?.getD 0 + ((j + 1 - m : Nat) : Int) := by
                    have h1 := HLT.out
                    have h2 : (0 : Int) ≤ x[m]?.getD 0 := HXN.out m
                    unfold wrap64; omega
                  have HSJ := hid (hrj.set j (by rw [hlen, HXL.out]; exact hjk) (x[m]?.getD 0 + ((j + 1 - m : Nat) : Int)))
                  rw [hset] at HSJ
                  have i1 : (0 : Int) ≤ ((j - 1 : Nat) : Int) := by omega
                  have i2 : ((j - 1 : Nat) : Int) < (k : Int) := by omega
                  have i3 : (0 : Int) ≤ (j : Int) := by omega
                  have i4 : (j : Int) < (k : Int) := by omega
                  have HKJ := hid hkj
                  obtain ⟨y, hy⟩ : ∃ y, y = x[m]?.getD 0 + ((j - m : Nat) : Int) := ⟨_, rfl⟩
                  obtain ⟨z, hz⟩ : ∃ z, z = x[m]?.getD 0 + ((j + 1 - m : Nat) : Int) := ⟨_, rfl⟩
                  rw [← hy, ← hz] at hwv
                  rw [← hy] at hcj
                  rw [← hz] at HSJ
                  obtain ⟨p, hp⟩ : ∃ p, p = j - 1 := ⟨_, rfl⟩
                  rw [← hp] at hcj hwj i1 i2
                  have hjp : (j : Int) - 1 = (p : Int) := by omega
                  clear hrj hkj hlen hget hset hy hz hp hu
                  gi_wp2
                  refine ⟨⟨j + 1, by omega, by omega, ?_, HSJ.out, HKJ.out.trans (Keep.set _ _ _ _)⟩, by simp [intOf]; omega⟩
                  rw [show ((j : Int) + 1) = ((j + 1 : Nat) : Int) by omega]
                · obtain rfl : j = k := by omega
                  have hnx := HC.out.at HX.out
                  rw [fillS_done HXL.out hkn hmk HT.out HLT.out] at hnx
                  have hi1 : i + 1 < xs.length := (List.getElem?_eq_some_iff.1 hnx).1
                  have HNX := hid hnx
                  have HKJ := hid hkj
                  have HRJ := hid hrj
                  clear hnx hkj hrj
                  gi_wp2
                  gi_roundg (xs.length - (i + 1))
                  case measure => omega
                  case rel =>
                    refine ⟨i + 1, fillS x m j, rfl, HNX.out, ?_, HRJ.out, ?_, ?_, ?_⟩
                    · exact HJ.out it _ W3 _ HIT.out HJ3.out ((Keep.of_below HBQ.out).trans HKJ.out)
                    · exact (HKJ.out.block kb (by have := HBQ.out.size; omega) (by have := HIT.out; omega)).trans ((HBQ.out.block kb (by omega)).trans HK3.out)
                    · exact (HKJ.out.block nb (by have := HBQ.out.size; omega) (by have := HIT.out; omega)).trans ((HBQ.out.block nb (by omega)).trans HN3.out)
                    · have := HKJ.out.size; have := HBQ.out.size; omega
          · obtain rfl : i0 = -1 := by omega
            have hn0 : decide ((0 : Int) ≤ -1) = false := by decide
            have HT := hid hT
            clear hT
            gi_wp2
            gi_quiet (fail)
            gi_wp2
            refine bodyPost_ret (results_none rfl _ _ _) rfl ?_
            refine ⟨⟨_, rfl⟩, .inl ⟨it, HIT.out, ?_⟩⟩
            have hnx := HC.out.at HX.out
            rw [next_none HXL.out hkn (by simpa using HT.out)] at hnx
            rw [← take_all_at HX.out hnx]
            exact HJ.out it _ W3 _ HIT.out HJ3.out (Keep.of_below (below_drewN HBI.out _))
      · gi_wp2
        refine bodyPost_ret (results_none rfl _ _ _) rfl ?_
        exact ⟨⟨_, rfl⟩, .inr ⟨_, List.take_prefix _ _, hJx⟩⟩
  · have HNIL := hid (HNL.out hkn)
    have hkb' : w1.cell? ⟨kb, 0, none⟩ = some (.int .i64 k) := (World.cell?_of_block (a := ⟨kb, 0, none⟩) hkb1).trans hg0
    have hnb' : w1.cell? ⟨nb, 0, none⟩ = some (.int .i64 n) := (World.cell?_of_block (a := ⟨nb, 0, none⟩) hnb1).trans hg1
    have hd : decide ((k : Int) ≤ (n : Int)) = false := by simp; omega
    have HJ1 := hid hJ1
    have HIT := hid hit
    clear hJ1 hit hr1
    gi_wp2
    gi_loopw [] (fun wr => ∃ q, wr = w1.drewN q) (fun _ => 0)
    case atStart => exact ⟨0, rfl⟩
    case round =>
      obtain ⟨q, rfl⟩ := hrel
      have hkb2 : (w1.drewN q).cell? ⟨kb, 0, none⟩ = some (.int .i64 k) := hkb'
      have hnb2 : (w1.drewN q).cell? ⟨nb, 0, none⟩ = some (.int .i64 n) := hnb'
      gi_wp2
      go_end0
      refine ⟨⟨_, rfl⟩, .inl ⟨it, HIT.out, ?_⟩⟩
      rw [HNIL.out]
      exact HJ.out it _ _ _ HIT.out HJ1.out ((Keep.refl _ _).drewN q)
end Go.Proofs.Ytfipebkhomppmaa

namespace Go.Proofs.Ytfipebkhomppmaa
open Go.RowKit
set_option linter.unusedVariables false

theorem sets_c (w : World) (n k : Int) :
    Calls Try.prog 60 #[.int .i64 n, .int .i64 k] w fun e w' => e = .returned (.func (.func 115) #[] #[.pointer (some ⟨w.heap.size + 1, 0, none⟩), .pointer (some ⟨w.heap.size, 0, none⟩)]) ∧
      w' = (w.alloc (.cells #[.int .i64 n] 3)).alloc (.cells #[.int .i64 k] 3) := by
  have hmf : ∀ (fn : Fn) (first cap : Array Value) (w : World), (Instr.makeFunc fn first cap).run Try.prog w = .ok (.func fn first cap) w := fun _ _ _ _ => rfl
  go_enter Try.func60, Try.ntmps60
  go_wp2
  go_ret
  exact ⟨by simp, rfl⟩
end Go.Proofs.Ytfipebkhomppmaa

namespace Go.Proofs.Ytfipebkhomppmaa
open Go.RowKit
set_option linter.unusedVariables false

def Marks (b : Nat) : Nat → List Deferred → World → Prop
  | _, [], _ => True
  | top, d :: ds, w => ∃ h, b ≤ h ∧ h < top ∧ d = { target := .collected h, args := #[] } ∧ w.heap[h]? = some (.deferred (some [])) ∧ Marks b h ds w

theorem Marks.keep {b : Nat} {S : Nat → Prop} {A B : World} (hk : Keep S A B) : ∀ {top : Nat} {D : List Deferred}, (∀ k, k < A.heap.size → b ≤ k → k < top → A.heap[k]? = some (.deferred (some [])) → S k) → Marks b top D A → Marks b top D B
  | _, [], _, _ => trivial
  | top, d :: ds, hS, h => by
    obtain ⟨k, h1, h2, h3, h4, h5⟩ := h
    have hlt := (Array.getElem?_eq_some_iff.1 h4).1
    exact ⟨k, h1, h2, h3, (hk.block k hlt (hS k hlt h1 h2 h4)).trans h4, Marks.keep hk (fun q hq hb hqk => hS q hq hb (by omega)) h5⟩
theorem Marks.lt {b : Nat} {A : World} : ∀ {top : Nat} {D : List Deferred}, Marks b top D A → Marks b A.heap.size D A
  | _, [], _ => trivial
  | top, d :: ds, ⟨k, h1, h2, h3, h4, h5⟩ => ⟨k, h1, (Array.getElem?_eq_some_iff.1 h4).1, h3, h4, h5⟩
theorem Marks.up {b top t2 : Nat} {D : List Deferred} {A : World} (h : Marks b top D A) (ht : top ≤ t2) : Marks b t2 D A := by
  cases D with
  | nil => trivial
  | cons d ds =>
    obtain ⟨k, h1, h2, h3⟩ := h
    exact ⟨k, h1, by omega, h3⟩
theorem Marks.below {b k top : Nat} {D : List Deferred} {A : World} (hk : top ≤ k) : ∀ (o : Obj), Marks b top D A → Marks b top D (A.putObj k o) := fun o h => by
  induction D generalizing top with
  | nil => trivial
  | cons d ds ih =>
    obtain ⟨q, h1, h2, h3, h4, h5⟩ := h
    exact ⟨q, h1, h2, h3, (World.putObj_heap_other (by omega)).trans h4, ih (by omega) h5⟩

theorem Marks.leave {F : Fence} {n : Nat} {P : Program} {fn : Func} {tmps : Array Value} {R : Ending → World → Prop} {b : Nat} : ∀ (D : List Deferred) (top : Nat) (w : World), Marks b top D w →
    (∀ w', Keep (fun k => k < b ∨ w.heap[k]? ≠ some (.deferred (some []))) w w' → LeavesIn F n P fn tmps R [] .returning w') → LeavesInM F n P fn tmps R D .returning w
  | [], _, w, _, h => h w (Keep.refl _ _)
  | d :: ds, top, w, ⟨k, h1, h2, h3, h4, h5⟩, h => by
    refine ⟨by simp, .inl ⟨k, _, by rw [h3], run_takeDeferred h4, ?_⟩⟩
    refine Marks.leave ds k _ (Marks.below (Nat.le_refl _) _ h5) fun w' hk => h w' ?_
    have hp := Keep.put w k (.deferred none)
    refine ⟨hk.os.trans hp.os, hk.tape.trans hp.tape, hk.output.trans hp.output, Nat.le_trans hp.size hk.size, fun i hi hs => ?_⟩
    have hne : i ≠ k := by
      rintro rfl
      rcases hs with hs | hs
      · omega
      · exact hs h4
    have e1 : (w.putObj k (.deferred none)).heap[i]? = w.heap[i]? := World.putObj_heap_other hne
    refine (hk.block i (Nat.lt_of_lt_of_le hi hp.size) ?_).trans e1
    rcases hs with hs | hs
    · exact .inl hs
    · exact .inr (by rw [e1]; exact hs)
end Go.Proofs.Ytfipebkhomppmaa

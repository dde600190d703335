/- Walks: Primitive (package part), Rank and Kernel (package lin). -/
import Derived.Test.YtfipebkhomppmaaLwE
import Derived.Test.YtfipebkhomppmaaLinO
import Derived.Maps.RangeWalk
namespace Go.Proofs.Ytfipebkhomppmaa
open Go.RowKit
set_option linter.unusedVariables false

theorem region_cut {P : Program} {c : Code} {Q : Exit → Act → World → Prop} {a : Act} {w : World} (R : Act → Act → World → Prop) (h1 : c.wp P (fun e a' w' => e = .normal ∧ R a a' w') a w) (h2 : ∀ a' w', R a a' w' → Q .normal a' w') : c.wp P Q a w :=
  Code.wp_mono (fun e a' w' ⟨he, hr⟩ => by subst he; exact h2 a' w' hr) h1

theorem prim1 (w : World) : PredI Try.prog 119 #[] w (fun n => decide (n ≠ 0)) := by
  intro x W hb
  by_cases e : x = 0
  · subst e
    go_enter Try.func119, Try.ntmps119
    go_wp2
    go_ret
    exact ⟨rfl, Below.refl _ _⟩
  · have hd : (x == 0) = false := by simpa using e
    have HE := hid e
    clear e
    go_enter Try.func119, Try.ntmps119
    go_wp2
    go_ret
    exact ⟨ret_bool (by have := HE.out; simp [this]), Below.refl _ _⟩

theorem firstNz_zero : ∀ {l : List Int}, (∀ x ∈ l, x = 0) → firstNz l = 0
  | [], _ => rfl
  | x :: l, h => by unfold firstNz; rw [if_pos (h x (by simp))]; exact firstNz_zero fun y hy => h y (by simp [hy])

theorem idx_nz (l : List Int) : (idxP (fun n => decide (n ≠ 0)) l 0 = -1 ∧ firstNz l = 0) ∨ ∃ k : Nat, k < l.length ∧ idxP (fun n => decide (n ≠ 0)) l 0 = (k : Int) ∧ firstNz l = l[k]?.getD 0 := by
  rw [idxP_find]
  cases h : l.findIdx? (fun n => decide (n ≠ 0)) with
  | none =>
    left
    refine ⟨rfl, firstNz_zero fun x hx => ?_⟩
    have := List.findIdx?_eq_none_iff.1 h x hx
    simpa using this
  | some k =>
    right
    obtain ⟨h1, h2, h3⟩ := List.findIdx?_eq_some_iff_getElem.1 h
    refine ⟨k, h1, by simp, ?_⟩
    have hv : ∀ j (hj : j < l.length), vec l j = l[j] := fun j hj => vec_lt hj
    have := firstNz_at (l := l) (i := k) (fun j hj => by
      rw [hv j (by omega)]
      have := h3 j hj
      simpa using this) (by rw [hv k h1]; simpa using h2)
    rw [this]; rfl

set_option maxRecDepth 100000 in
set_option maxHeartbeats 4000000 in
theorem primitive_c (w : World) (b n cap : Nat) (l : List Int) (hn : l.length = n) (hm : n ≤ maxLen) (H : SpRow w b l) (hB : BndL 4611686018427387904 l) :
    Calls Try.prog 63 #[.slice (some ⟨b, 0, none⟩) n cap] w fun e w' => e = .returned (.slice (some ⟨b, 0, none⟩) n cap) ∧ SpRow w' b (primV l) ∧ Keep (fun k => k ≠ b) w w' := by
  have HS := hid (shortened_c w b n cap l hn hm H hB)
  have hsl : (shortF l).length = n := by rw [shortF_len, hn]
  have hsb : BndL 4611686018427387904 (shortF l) := by
    refine mem_vec (P := fun x => -((4611686018427387904 : Nat) : Int) ≤ x ∧ x ≤ ((4611686018427387904 : Nat) : Int)) fun c => ?_
    have h1 := shortF_le l c
    have h2 := vec_mem (P := fun x => -((4611686018427387904 : Nat) : Int) ≤ x ∧ x ≤ ((4611686018427387904 : Nat) : Int)) (by omega) hB c
    omega
  have hp : primV l = if firstNz (shortF l) < 0 then negF (shortF l) else shortF l := rfl
  rw [hp]
  obtain ⟨s, hs⟩ : ∃ s, s = shortF l := ⟨_, rfl⟩
  rw [← hs] at HS hsl hsb ⊢
  have HSL := hid hsl
  have HSB := hid hsb
  have hm9 := hm
  unfold maxLen at hm9
  clear hn H hB hs hp hsl hsb
  rcases idx_nz s with ⟨hi, hf⟩ | ⟨k, hks, hi, hf⟩
  · rw [hf]
    have HIX := hid hi
    clear hi hf
    go_enter Try.func63, Try.ntmps63
    go_wp2_with (go_at_call 116; refine HS.out.mono ?_; rintro e w1 ⟨rfl, hr1, hk1⟩; refine Stop.of ?_)
    refine Stop.go ?_
    have HI := hid (indexI w1 (some ⟨b, 0, none⟩) n cap s HSL.out hm hr1.ints 119 #[] _ (enters_of Try.func119 (by kernel_rfl) rfl) (prim1 w1))
    rw [HIX.out] at HI
    have HR1 := hid hr1
    have HK1 := hid hk1
    clear hr1 hk1 HS
    go_wp2_with (go_at_call 118; refine HI.out.mono ?_; rintro e w2 ⟨rfl, hb2⟩)
    go_ret
    exact ⟨rfl, HR1.out.keep (hb2.block b HR1.out.lt), HK1.out.trans (Keep.of_below hb2)⟩
  · rw [hf]
    obtain ⟨x, hx⟩ : ∃ x, x = s[k]?.getD 0 := ⟨_, rfl⟩
    rw [← hx]
    have hkn : k < n := by rw [← HSL.out]; exact hks
    have i1 : (0 : Int) ≤ (k : Int) := by omega
    have i2 : (k : Int) < (n : Int) := by omega
    have HIX := hid hi
    have HX := hid hx
    have HKS := hid hks
    clear hi hf hx hks
    by_cases hxn : x < 0
    · rw [if_pos hxn]
      have hd : decide (x < 0) = true := decide_eq_true hxn
      clear hxn
      go_enter Try.func63, Try.ntmps63
      go_wp2_with (go_at_call 116; refine HS.out.mono ?_; rintro e w1 ⟨rfl, hr1, hk1⟩; refine Stop.of ?_)
      refine Stop.go ?_
      have HI := hid (indexI w1 (some ⟨b, 0, none⟩) n cap s HSL.out hm hr1.ints 119 #[] _ (enters_of Try.func119 (by kernel_rfl) rfl) (prim1 w1))
      rw [HIX.out] at HI
      have hc1 := hr1.cell HKS.out
      rw [← HX.out] at hc1
      have hlt1 := hr1.lt
      have HR1 := hid hr1
      have HK1 := hid hk1
      clear hr1 hk1 HS
      go_wp2_with (go_at_call 118; refine HI.out.mono ?_; rintro e w2 ⟨rfl, hb2⟩; refine Stop.of ?_)
      refine Stop.go ?_
      have hc2 : w2.cell? ⟨b, k, none⟩ = some (.int .i64 x) := (hb2.cell (p := ⟨b, k, none⟩) hlt1).trans hc1
      have HR2 := hid (HR1.out.keep (hb2.block b HR1.out.lt))
      have HK2 := hid (HK1.out.trans (Keep.of_below hb2))
      clear HI hb2 hc1 HR1 HK1
      go_wp2
      go_loopw [20] (fun i wr => ∃ t : Nat, t ≤ n ∧ i = .int .i64 t ∧ SpRow wr b (halfF (fun x => -x) s t) ∧ Keep (fun k => k ≠ b) w2 wr) (fun i _ => n - (intOf i).toNat)
      case atStart => exact ⟨0, Nat.zero_le _, rfl, by rw [halfF_zero]; exact HR2.out, Keep.refl _ _⟩
      case round =>
        obtain ⟨t, ht, rfl, hr, hkp⟩ := hrel
        by_cases hltt : t < n
        · have htl : t < s.length := by rw [HSL.out]; exact hltt
          have d2 := hr.cell (j := t) (by rw [halfF_len]; exact htl)
          rw [halfF_at _ htl] at d2
          have hz := hr.frozen t
          have hbd := HSB.out.get htl
          have hst := halfF_set (fun x => -x) htl
          have HSET := hid (fun (X : World) (hX : X.heap[b]? = wr.heap[b]?) v => (hr.keep hX).set t (by rw [halfF_len]; exact htl) v)
          have hgs := hr.lt
          obtain ⟨y, hy⟩ : ∃ y, y = s[t]?.getD 0 := ⟨_, rfl⟩
          rw [← hy] at d2 hbd hst
          have HST := hid hst
          have HKP := hid hkp
          have hwn : IntKind.i64.wrap (-y) = -y := IntWalk.i64_in _ (by omega)
          have ht0 : (0 : Int) ≤ (t : Int) := by omega
          have ht1 : (t : Int) < (n : Int) := by omega
          clear hr hkp hst hy htl hc2 i1 i2
          go_wp2
          refine ⟨⟨t + 1, by omega, by go_num, ?_, HKP.out.trans (Keep.set wr b t _)⟩, by simp [intOf]; omega⟩
          rw [← HST.out]
          exact HSET.out wr rfl _
        · obtain rfl : t = n := by omega
          go_wp2
          go_ret
          rw [← HSL.out, halfF_all] at hr
          exact ⟨rfl, hr, HK2.out.trans hkp⟩
    · rw [if_neg hxn]
      have hd : decide (x < 0) = false := decide_eq_false hxn
      clear hxn
      go_enter Try.func63, Try.ntmps63
      go_wp2_with (go_at_call 116; refine HS.out.mono ?_; rintro e w1 ⟨rfl, hr1, hk1⟩; refine Stop.of ?_)
      refine Stop.go ?_
      have HI := hid (indexI w1 (some ⟨b, 0, none⟩) n cap s HSL.out hm hr1.ints 119 #[] _ (enters_of Try.func119 (by kernel_rfl) rfl) (prim1 w1))
      rw [HIX.out] at HI
      have hc1 := hr1.cell HKS.out
      rw [← HX.out] at hc1
      have hlt1 := hr1.lt
      have HR1 := hid hr1
      have HK1 := hid hk1
      clear hr1 hk1 HS
      go_wp2_with (go_at_call 118; refine HI.out.mono ?_; rintro e w2 ⟨rfl, hb2⟩; refine Stop.of ?_)
      refine Stop.go ?_
      have hc2 : w2.cell? ⟨b, k, none⟩ = some (.int .i64 x) := (hb2.cell (p := ⟨b, k, none⟩) hlt1).trans hc1
      have HR2 := hid (HR1.out.keep (hb2.block b HR1.out.lt))
      have HK2 := hid (HK1.out.trans (Keep.of_below hb2))
      clear HI hb2 hc1 HR1 HK1
      go_wp2
      go_ret
      exact ⟨rfl, HR2.out, HK2.out⟩

/-- a valid mask -/
theorem okM_ok {M : Mask} (h : okM M = true) : MaskOk M (colsM M) ∧ 1 ≤ M.length ∧ M.length ≤ 6 ∧ 1 ≤ colsM M ∧ colsM M ≤ 10 := by
  unfold okM inB at h
  simp only [Bool.and_eq_true, decide_eq_true_eq, List.all_eq_true] at h
  obtain ⟨⟨h1, h2⟩, h3⟩ := h
  have hr : ∀ r ∈ M, r.length = colsM M ∧ (1 ≤ r.length ∧ r.length ≤ 10) ∧ ∀ x ∈ r, -1 ≤ x ∧ x ≤ 1 := fun r hr => by
    have h4 := h3 r hr
    unfold okMRow inB at h4
    simp only [Bool.and_eq_true, decide_eq_true_eq, List.all_eq_true] at h4
    obtain ⟨h5, ⟨h6, h7⟩, h8⟩ := h4
    exact ⟨h5, ⟨by omega, by omega⟩, h8⟩
  have h0 : M.length ≠ 0 := by omega
  have hm0 : M[0]'(by omega) ∈ M := List.getElem_mem _
  obtain ⟨k1, k2, _⟩ := hr _ hm0
  refine ⟨⟨fun r hr' => (hr r hr').1, by omega, fun r hr' c => vec_mem (P := fun x => -1 ≤ x ∧ x ≤ 1) (by decide) (hr r hr').2.2 c⟩, by omega, by omega, by omega, by omega⟩

theorem cols_all {M : List (List Int)} {n : Nat} (h : ∀ r ∈ M, r.length = n) : colsF M (allI n) = M := by
  unfold colsF
  conv => rhs; rw [← List.map_id M]
  refine List.map_congr_left fun r hr => ?_
  refine List.ext_getElem (by simp [allI, h r hr]) fun i h1 h2 => ?_
  simp only [allI, List.getElem_map, List.getElem_range, id]
  simp only [Int.toNat_natCast]
  exact vec_lt _

theorem allI_mem {n : Nat} {j : Int} (h : j ∈ allI n) : 0 ≤ j ∧ j < (n : Int) := by
  unfold allI at h
  obtain ⟨i, hi, rfl⟩ := List.mem_map.1 h
  have := List.mem_range.1 hi
  omega

/-- the head of a valid mask -/
theorem rows_head {w : World} {a : Option Addr} {M : Mask} (H : RowsAt w a M) (h0 : 0 < M.length) :
    ∃ b off ra rc, a = some ⟨b, off, none⟩ ∧ b < w.heap.size ∧ w.cell? ⟨b, off, none⟩ = some (.slice ra (colsM M) rc) := by
  obtain ⟨b, off, ra, rn, rc, rfl, hb, hc, hn, _, _⟩ := H 0 h0
  refine ⟨b, off, ra, rc, rfl, hb, ?_⟩
  have e : colsM M = rn := by unfold colsM; rw [List.getElem?_eq_getElem h0]; exact hn
  rw [e]; simpa using hc

set_option maxHeartbeats 1000000 in
theorem lkernel_c (w : World) (a : Option Addr) (n cap : Nat) (M : Mask) (hn : M.length = n) (hm : n ≤ maxLen) (H : RowsAt w a M) :
    Calls Try.prog 25 #[.slice a n cap] w fun e w' => ∃ v base, w.heap.size ≤ base ∧ Below w.heap.size w w' ∧
      ((okM M = false ∧ e = .returned (.tuple #[.slice none 0 0, .int .i64 1])) ∨ (okM M = true ∧ e = .returned (.tuple #[v, .int .i64 0]) ∧ OwnM w' base v (kerSP M (allI (colsM M))))) := by
  have HV := hid (maskValid_c w a n cap M hn hm H)
  cases hok : okM M
  · rw [hok] at HV
    clear hn H
    go_enter Try.func25, Try.ntmps25
    go_wp2_with (go_at_call 69; refine HV.out.mono ?_; rintro e w1 ⟨rfl, hb1⟩)
    go_ret2
    exact ⟨.slice none 0 0, w.heap.size, Nat.le_refl _, hb1, .inl ⟨by first | trivial | rfl, rfl⟩⟩
  · rw [hok] at HV
    obtain ⟨hM, h1, h6, hc1, hc10⟩ := okM_ok hok
    obtain ⟨b, off, ra, rc, rfl, hb, hc⟩ := rows_head H (by omega)
    have HR := hid H
    have HN := hid hn
    have HM := hid hM
    have hn0 : 0 < n := by omega
    obtain ⟨W, hW⟩ : ∃ W, W = colsM M := ⟨_, rfl⟩
    rw [← hW] at hc hc1 hc10 HM ⊢
    clear hn H hM hok hW
    go_enter Try.func25, Try.ntmps25
    go_wp2_with (go_at_call 69; refine HV.out.mono ?_; rintro e w1 ⟨rfl, hb1⟩; refine Stop.of ?_)
    refine Stop.go ?_
    have hc' : w1.cell? ⟨b, off, none⟩ = some (.slice ra W rc) := (hb1.cell (p := ⟨b, off, none⟩) hb).trans hc
    have HRR := hid (HR.out.below hb1)
    go_wp2_with (go_at_call 70; refine (all_c _ W (by omega)).mono ?_; rintro e w2 ⟨v, rfl, ho2, hb2⟩; refine Stop.of ?_)
    refine Stop.go ?_
    obtain ⟨va, vc, rfl, hi2, hm2⟩ := ints_of_own ho2 (allI_len W)
    have HR2 := hid (HRR.out.below hb2)
    have HI2 := hid hi2
    clear hi2 ho2
    go_wp2_with (go_at_call 61; refine (pkernel_c w2 _ n cap M HN.out (by omega) HM.out HR2.out va W vc (allI W) (allI_len W) hc1 (by omega) HI2.out (fun j hj => allI_mem hj)).mono ?_; rintro e w3 ⟨v3, base3, rfl, hbs3, hO3, hb3⟩; refine Stop.of ?_)
    refine Stop.go ?_
    have hbw := chain (chain hb1 hb2) hb3
    have hbs : w.heap.size ≤ base3 := by have := hb1.size; have := hb2.size; omega
    have HO3 := hid hO3
    clear hO3
    go_wp2
    go_ret2
    exact ⟨v3, base3, hbs, hbw, .inr ⟨by first | trivial | rfl, rfl, HO3.out⟩⟩

set_option maxHeartbeats 1000000 in
theorem rank_c (w : World) (a : Option Addr) (n cap : Nat) (M : Mask) (hn : M.length = n) (hm : n ≤ maxLen) (H : RowsAt w a M) :
    Calls Try.prog 31 #[.slice a n cap] w fun e w' => Below w.heap.size w w' ∧
      ((okM M = false ∧ e = .returned (.tuple #[.int .i64 0, .int .i64 1])) ∨ (okM M = true ∧ e = .returned (.tuple #[.int .i64 (rankF M (colsM M)), .int .i64 0]))) := by
  have HV := hid (maskValid_c w a n cap M hn hm H)
  cases hok : okM M
  · rw [hok] at HV
    clear hn H
    go_enter Try.func31, Try.ntmps31
    go_wp2_with (go_at_call 69; refine HV.out.mono ?_; rintro e w1 ⟨rfl, hb1⟩)
    go_ret2
    exact ⟨hb1, .inl ⟨by first | trivial | rfl, rfl⟩⟩
  · rw [hok] at HV
    obtain ⟨hM, h1, h6, hc1, hc10⟩ := okM_ok hok
    obtain ⟨b, off, ra, rc, rfl, hb, hc⟩ := rows_head H (by omega)
    have HR := hid H
    have HN := hid hn
    have HM := hid hM
    have hn0 : 0 < n := by omega
    obtain ⟨W, hW⟩ : ∃ W, W = colsM M := ⟨_, rfl⟩
    rw [← hW] at hc hc1 hc10 HM ⊢
    obtain ⟨rk, hrk⟩ : ∃ rk, rk = rankF M W := ⟨_, rfl⟩
    rw [← hrk]
    have HRK := hid hrk
    have hz : (0 : Int) < (n : Int) := by omega
    have hW1 : W ≤ 1000 := by omega
    have hn6 : n ≤ 6 := by omega
    clear hn H hM hok hW hrk
    go_enter Try.func31, Try.ntmps31
    go_wp2_with (go_at_call 69; refine HV.out.mono ?_; rintro e w1 ⟨rfl, hb1⟩; refine Stop.of ?_)
    refine Stop.go ?_
    have HS := hid (fun (X : World) (hX : Below w.heap.size w X) => (hX.cell (p := ⟨b, off, none⟩) hb).trans hc)
    have HRR := hid (fun (X : World) (hX : Below w.heap.size w X) => HR.out.below hX)
    have HB1 := hid hb1
    clear hb1 HR
    go_wp2
    refine region_cut (fun fr fr' X => ∃ v7 v8 v9 v10 v11 v12 v13 v14 v15 v16 v17 v18, fr' = ((((((((((((((fr.put (some 7) v7).put (some 8) v8).put (some 9) v9).put (some 10) v10).put (some 11) v11).put (some 12) v12).put (some 13) v13).put (some 14) v14).put (some 15) v15).put (some 16) v16).put (some 17) v17).put (some 18) v18).put (some 19) (.int .i64 rk)).put (some 2) (.int .i64 rk)).put (some 3) (.int .i64 0) ∧ Below w.heap.size w X) ?_ ?_
    · refine plain_region (fun j' X => wAll j' = true → X.cell? ⟨b, off, none⟩ = some (.slice ra W rc)) (by kernel_rfl) ?_
      have hbd : Below w.heap.size w w1.drew := HB1.out.drew
      generalize w1.drew = wd at hbd ⊢
      refine AnyT.takeD (i := 0) (v := .slice (some ⟨b, off, none⟩) n cap) rfl rfl (by kernel_rfl) (by kernel_rfl) (by kernel_rfl) (by first | exact (fun _ _ _ h => h) | exact (fun _ _ _ h => absurd h.1 (by simp))) (by kernel_rfl) (by rfl) (by rintro w' q5; go_simp) (HS.out _ hbd) ?_; go_frame
      refine AnyT.takeD (i := 1) (v := .slice (some ⟨b, off, none⟩) n cap) rfl rfl (by kernel_rfl) (by kernel_rfl) (by kernel_rfl) (by first | exact (fun _ _ _ h => h) | exact (fun _ _ _ h => absurd h.1 (by simp))) (by kernel_rfl) (by rfl) (by rintro w' q5; go_simp) (HS.out _ hbd) ?_; go_frame
      refine AnyT.takeD (i := 2) (v := .pointer (some ⟨b, off, none⟩)) rfl rfl (by kernel_rfl) (by kernel_rfl) (by kernel_rfl) (by first | exact (fun _ _ _ h => h) | exact (fun _ _ _ h => absurd h.1 (by simp))) (by kernel_rfl) (by rfl) (by rintro w' q5; go_simp) (HS.out _ hbd) ?_; go_frame
      refine AnyT.takeD (i := 3) (v := .slice ra W rc) rfl rfl (by kernel_rfl) (by kernel_rfl) (by kernel_rfl) (by first | exact (fun _ _ _ h => h) | exact (fun _ _ _ h => absurd h.1 (by simp))) (by kernel_rfl) (by rfl) (by rintro w' q5; go_simp) (HS.out _ hbd) ?_; go_frame
      refine AnyT.takeD (i := 4) (v := .int .i64 W) rfl rfl (by kernel_rfl) (by kernel_rfl) (by kernel_rfl) (by first | exact (fun _ _ _ h => h) | exact (fun _ _ _ h => absurd h.1 (by simp))) (by kernel_rfl) (by rfl) (by rintro w' q5; go_simp) (HS.out _ hbd) ?_; go_frame
      refine AnyT.takeD (i := 7) (v := .slice (some ⟨b, off, none⟩) n cap) rfl rfl (by kernel_rfl) (by kernel_rfl) (by kernel_rfl) (by first | exact (fun _ _ _ h => h) | exact (fun _ _ _ h => absurd h.1 (by simp))) (by kernel_rfl) (by rfl) (by rintro w' q5; go_simp) (HS.out _ hbd) ?_; go_frame
      refine AnyT.takeD (i := 8) (v := .pointer (some ⟨b, off, none⟩)) rfl rfl (by kernel_rfl) (by kernel_rfl) (by kernel_rfl) (by first | exact (fun _ _ _ h => h) | exact (fun _ _ _ h => absurd h.1 (by simp))) (by kernel_rfl) (by rfl) (by rintro w' q5; go_simp) (HS.out _ hbd) ?_; go_frame
      refine AnyT.takeD (i := 9) (v := .slice ra W rc) rfl rfl (by kernel_rfl) (by kernel_rfl) (by kernel_rfl) (by first | exact (fun _ _ _ h => h) | exact (fun _ _ _ h => absurd h.1 (by simp))) (by kernel_rfl) (by rfl) (by rintro w' q5; go_simp) (HS.out _ hbd) ?_; go_frame
      refine AnyT.takeD (i := 10) (v := .int .i64 W) rfl rfl (by kernel_rfl) (by kernel_rfl) (by kernel_rfl) (by first | exact (fun _ _ _ h => h) | exact (fun _ _ _ h => absurd h.1 (by simp))) (by kernel_rfl) (by rfl) (by rintro w' q5; go_simp) (HS.out _ hbd) ?_; go_frame
      refine AnyT.next (i := 5) (by kernel_rfl) rfl (wpOp_of_list rfl ?_)
      go_wp2_with (go_at_call 70; refine (all_c wd W hW1).mono ?_; rintro e w2 ⟨v, rfl, ho2, hb2⟩; refine Stop.of ?_)
      refine Stop.go ?_
      obtain ⟨va, vc, rfl, hi2, hm2⟩ := ints_of_own ho2 (allI_len W)
      have hbw2 := chain hbd hb2
      have HCH := hid (chosen_c w2 _ n cap M HN.out (by omega) (HRR.out _ hbw2) va W vc (allI W) (allI_len W) hW1 hi2 (fun r hr j hj => by rw [HM.out.wid r hr]; exact allI_mem hj) 80 #[] (enters_of Try.func80 (by kernel_rfl) rfl) (fun _ => []) (none_more w2 n) (fun i _ => ⟨by simp, by simp; omega⟩))
      rw [chosenF_none, cols_all HM.out.wid] at HCH
      clear ho2 hi2 hb2
      go_wp2
      refine ⟨fun _ => HS.out _ hbw2, ?_⟩
      refine AnyT.next (i := 6) (by kernel_rfl) rfl (wpOp_of_list rfl ?_)
      go_wp2_with (go_at_call 79; refine HCH.out.mono ?_; rintro e w3 ⟨v3, rfl, hO3, hb3⟩; refine Stop.of ?_)
      refine Stop.go ?_
      have hbw3 := chain hbw2 hb3
      have HRD := hid (reduce_c w3 w2.heap.size v3 M W (OwnT.of hO3) hb3.size HM.out.wid hW1 (by rw [HN.out]; omega) (by rw [HN.out]; omega) W (Nat.le_refl _) (fun t ht r hr => ⟨(HM.out.bnd ht r hr).1, fun x hx => by have := (HM.out.bnd ht r hr).2 x hx; omega⟩))
      have hbs2 := hbw2.size
      clear hO3 hb3 HCH
      go_wp2
      refine ⟨fun _ => HS.out _ hbw3, ?_⟩
      refine AnyT.next (i := 11) (by kernel_rfl) rfl (wpOp_of_list rfl ?_)
      go_wp2_with (go_at_call 78; refine HRD.out.mono ?_; rintro e w4 ⟨v4, rfl, hO4, hT4, hb4⟩; refine Stop.of ?_)
      refine Stop.go ?_
      have hbw4 : Below w.heap.size w w4 := hbw3.trans (hb4.mono hbs2)
      rw [intsJ_vals] at hO4
      obtain ⟨ja, jc, rfl, hJI, hJm⟩ := ints_of_own hO4 (intsJ_len _)
      have e4 : (pRed M W).2.length = rk := HRK.out.symm
      rw [e4]
      clear hO4 hT4 hb4 hJI hJm e4 HRD
      go_wp2
      refine ⟨fun _ => HS.out _ hbw4, ?_⟩
      refine AnyT.takeD (i := 12) (v := .int .i64 rk) rfl rfl (by kernel_rfl) (by kernel_rfl) (by kernel_rfl) (by first | exact (fun _ _ _ h => h) | exact (fun _ _ _ h => absurd h.1 (by simp))) (by kernel_rfl) (by rfl) (by rintro w' q5; go_simp) (HS.out _ hbw4) ?_; go_frame
      refine AnyT.takeD (i := 13) (v := .int .i64 rk) rfl rfl (by kernel_rfl) (by kernel_rfl) (by kernel_rfl) (by first | exact (fun _ _ _ h => h) | exact (fun _ _ _ h => absurd h.1 (by simp))) (by kernel_rfl) (by rfl) (by rintro w' q5; go_simp) (HS.out _ hbw4) ?_; go_frame
      refine AnyT.takeD (i := 14) (v := .int .i64 0) rfl rfl (by kernel_rfl) (by kernel_rfl) (by kernel_rfl) (by first | exact (fun _ _ _ h => h) | exact (fun _ _ _ h => absurd h.1 (by simp))) (by kernel_rfl) (by rfl) (by rintro w' q5; go_simp) (HS.out _ hbw4) ?_; go_frame
      exact ⟨by kernel_rfl, rfl, .slice (some ⟨b, off, none⟩) n cap, .slice (some ⟨b, off, none⟩) n cap, .pointer (some ⟨b, off, none⟩), .slice ra W rc, .int .i64 W, .slice va W vc, v3, .slice (some ⟨b, off, none⟩) n cap, .pointer (some ⟨b, off, none⟩), .slice ra W rc, .int .i64 W, .slice ja rk jc, (by go_frame), hbw4⟩
    · rintro a5 w5 ⟨v7, v8, v9, v10, v11, v12, v13, v14, v15, v16, v17, v18, rfl, hb5⟩
      go_frame
      go_wp2
      go_ret2
      exact ⟨hb5, .inr ⟨by first | trivial | rfl, rfl⟩⟩
end Go.Proofs.Ytfipebkhomppmaa

/- Walks of reference 03: kernel. -/
import Derived.Test.YtfipebkhomppmaaLwY
import Derived.Test.YtfipebkhomppmaaLinR
namespace Go.Proofs.Ytfipebkhomppmaa
open Go.RowKit
set_option linter.unusedVariables false

/-- the header and the numbers of a row, wherever the table lies -/
theorem row_cellsA {W : World} {a : Option Addr} {R : List (List Int)} (h : RowsAt W a R) {t n : Nat} (ht : t < R.length) (hw : ∀ r ∈ R, r.length = n) (hn : 1 ≤ n) :
    ∃ b off rb ro rc, a = some ⟨b, off, none⟩ ∧ W.cell? ⟨b, off + t, none⟩ = some (.slice (some ⟨rb, ro, none⟩) n rc) ∧ ∀ c, c < n → W.cell? ⟨rb, ro + c, none⟩ = some (.int .i64 (vec (R[t]?.getD []) c)) := by
  obtain ⟨b, off, ra, n', rc, e, hlt, h0, hn', hm, hi⟩ := h t ht
  have hl := hw _ (List.getElem_mem ht)
  obtain ⟨rb, ro, rfl, _, _⟩ := hi 0 (by omega)
  refine ⟨b, off, rb, ro, rc, e, ?_, fun c hc => ?_⟩
  · rw [h0, ← hn', hl]
  · obtain ⟨rb', ro', e, _, hx⟩ := hi c (by omega)
    cases e
    rw [hx, List.getElem?_eq_getElem ht]; rfl
theorem castL_len (J : List Nat) : (castL J).length = J.length := by simp [castL]
theorem castL_get {J : List Nat} {t : Nat} (ht : t < J.length) : (castL J)[t]?.getD 0 = ((J[t] : Nat) : Int) := by unfold castL; rw [List.getElem?_map, List.getElem?_eq_getElem ht]; rfl
theorem free_take {J : List Nat} {t : Nat} (ht : t < J.length) (f : Nat) : (!(J.take (t + 1)).contains f) = ((!(J.take t).contains f) && decide (((J[t] : Nat) : Int) ≠ (f : Int))) := by
  rw [List.take_succ_eq_append_getElem ht]
  have e : ∀ (l : List Nat) (y : Nat), (l ++ [y]).contains f = (l.contains f || decide (f = y)) := by
    intro l y
    rw [Bool.eq_iff_iff]; simp
  rw [e, Bool.not_or]
  congr 1
  by_cases h : f = J[t]
  · simp [h]
  · have : ¬ (((J[t] : Nat) : Int) = (f : Int)) := by omega
    simp [h, this]

set_option maxRecDepth 100000 in
set_option maxHeartbeats 8000000 in
theorem r3kernel_c (w : World) (a : Option Addr) (n cap : Nat) (C : List (List Int)) (hn : C.length = n) (hn1 : 1 ≤ n) (k : Nat) (hk1 : 1 ≤ k) (hk9 : k ≤ 1000) (hC : MaskOk C k) (H : RowsAt w a C) :
    Calls Try.prog 66 #[.slice a n cap] w fun e w' => ∃ v base, e = .returned v ∧ w.heap.size ≤ base ∧ TabS w' base v (kernP (RP C k) (JP C k) k) ∧ Below w.heap.size w w' := by
  have hn6 : n ≤ 6 := by rw [← hn]; exact hC.le6
  have hB := refB hC
  have HRd := hid (r3reduced_c w a n cap C k hn (by omega) H hC.wid hk9 (fun r hr => mem_vec (P := fun x => -((4611686018427387904 : Nat) : Int) ≤ x ∧ x ≤ ((4611686018427387904 : Nat) : Int)) fun c => by have := hC.one r hr c; omega)
    (fun t ht r hr => ⟨(hB t ht r hr).1, fun x hx => by have := (hB t ht r hr).2 x hx; omega⟩) (fun t => by rw [(ref_lens hC.wid t).1, hn]) (fun t => (ref_lens hC.wid t).2))
  obtain ⟨hRK, hkern⟩ := refK hC
  rw [hkern]
  obtain ⟨b0, off0, ra0, rn0, rc0, rfl, hbs0, hq0, hrn0, hrm0, hri0⟩ := H 0 (by omega)
  obtain rfl : rn0 = k := by rw [← hrn0]; exact hC.wid _ (List.getElem_mem _)
  have hraw := rawR_le hRK
  obtain ⟨R, hR⟩ : ∃ R, R = (rRed C rn0).done := ⟨_, rfl⟩
  obtain ⟨J, hJ⟩ : ∃ R, R = (rRed C rn0).piv := ⟨_, rfl⟩
  rw [← hR, ← hJ] at HRd hRK hraw ⊢
  obtain ⟨K, hK⟩ : ∃ K, K = J.length := ⟨_, rfl⟩
  rw [← hK] at HRd
  have hRl : R.length = K := by rw [hRK.len, hK]
  have hK6 : K ≤ 6 := by rw [hK]; exact hRK.le6
  have HKJ := hid hK
  have HRK := hid hRK
  have HRAW := hid hraw
  have HRL := hid hRl
  have hc0 : w.cell? ⟨b0, off0, none⟩ = some (.slice ra0 rn0 rc0) := hq0
  have hni : (0 : Int) < (n : Int) := by omega
  clear hB hn H hkern hR hJ hK hRK hraw hRl hrn0 hrm0 hri0 hC hq0
  go_enter Try.func66, Try.ntmps66
  go_wp2_with (go_at_call 87; refine HRd.out.mono ?_; rintro e w1 ⟨vD, vP, rfl, hT1, hP1, hb1⟩; refine Stop.of ?_)
  refine Stop.go ?_
  clear HRd
  obtain ⟨pa, pc, rfl, hPI, hPm⟩ := ints_of_own hP1 (by rw [castL_len, HKJ.out])
  obtain ⟨da, dc, rfl⟩ : ∃ da dc, vD = .slice da K dc := by
    obtain ⟨_, ho1, _⟩ := hT1
    obtain ⟨a', c', e⟩ := ownsRow_slice ho1
    exact ⟨a', c', by rw [e, HRL.out]⟩
  have hRA := hT1.rows HRL.out (fun r hr => by rw [HRK.out.wid r hr]; unfold maxLen; omega)
  have hc1 : w1.cell? ⟨b0, off0, none⟩ = some (.slice ra0 rn0 rc0) := (hb1.cell (p := ⟨b0, off0, none⟩) hbs0).trans hc0
  have hb0s : b0 < w1.heap.size := Nat.lt_of_lt_of_le hbs0 hb1.size
  have HPI := hid hPI
  have HRA := hid hRA
  have HBW := hid hb1
  have hsz : w.heap.size ≤ w1.heap.size := hb1.size
  clear hPI hRA hP1 hT1 hb1 hc0 hbs0
  go_wp2
  go_loopw [5, 25] (fun v i wr => ∃ f : Nat, f ≤ rn0 ∧ i = .int .i64 f ∧ TabS wr w1.heap.size v (kernRTo R J rn0 f) ∧ Below w1.heap.size w1 wr) (fun _ i _ => rn0 - (intOf i).toNat)
  case atStart => exact ⟨0, Nat.zero_le _, rfl, TabS.nil _ _, Below.refl _ _⟩
  case round =>
    obtain ⟨f, hf, rfl, ho, hbk⟩ := hrel
    obtain ⟨wo, hwo⟩ : ∃ wo, wo = wr := ⟨_, rfl⟩
    subst hwo
    by_cases hlt : f < rn0
    · have HO := hid ho
      have HBK := hid hbk
      have HJO := hid (HPI.out.below hbk)
      have HRO := hid (HRA.out.below hbk)
      have hcO : wo.cell? ⟨b0, off0, none⟩ = some (.slice ra0 rn0 rc0) := (hbk.cell (p := ⟨b0, off0, none⟩) hb0s).trans hc1
      have hbOs : b0 < wo.heap.size := Nat.lt_of_lt_of_le hb0s hbk.size
      clear ho hbk
      go_wp2
      go_loopw [7, 30] (fun v i wr => ∃ t : Nat, t ≤ K ∧ i = .int .i64 t ∧ v = .bool (!(J.take t).contains f) ∧ wr = wo) (fun _ i _ => K - (intOf i).toNat)
      case atStart => exact ⟨0, Nat.zero_le _, rfl, rfl, rfl⟩
      case round =>
        obtain ⟨t, ht, rfl, rfl, hww⟩ := hrel
        subst hww
        by_cases hltt : t < K
        · have htJ : t < J.length := by rw [← HKJ.out]; exact hltt
          obtain ⟨jb, jo, rfl, _, hjc⟩ := HJO.out t (by rw [castL_len]; exact htJ)
          rw [castL_get htJ] at hjc
          have hft := free_take htJ f
          obtain ⟨p, hp⟩ : ∃ p, p = J[t] := ⟨_, rfl⟩
          rw [← hp] at hjc hft
          obtain ⟨fr, hfr⟩ : ∃ fr, fr = !(J.take t).contains f := ⟨_, rfl⟩
          rw [← hfr] at hft ⊢
          have HFT := hid hft
          clear hp hfr hft htJ
          cases fr
          · go_wp2
            exact ⟨⟨t + 1, by omega, by go_num, by rw [HFT.out]; rfl, by first | trivial | rfl⟩, by simp [intOf]; omega⟩
          · by_cases hpf : (p : Int) = (f : Int)
            · have hd : ((p : Int) != (f : Int)) = false := by simp [hpf]
              have HPF := hid hpf
              clear hpf
              go_wp2
              exact ⟨⟨t + 1, by omega, by go_num, by rw [HFT.out, HPF.out]; simp, by first | trivial | rfl⟩, by simp [intOf]; omega⟩
            · have hd : ((p : Int) != (f : Int)) = true := by simpa using hpf
              have HPF := hid hpf
              clear hpf
              go_wp2
              exact ⟨⟨t + 1, by omega, by go_num, by rw [HFT.out]; simp [HPF.out], by first | trivial | rfl⟩, by simp [intOf]; omega⟩
        · obtain rfl : K = t := by omega
          have e : J.take K = J := List.take_of_length_le (by rw [HKJ.out]; exact Nat.le_refl _)
          rw [e]
          cases hfJ : J.contains f
          · have HFN := hid hfJ
            rw [show (!false) = true from rfl]
            clear e hfJ hltt
            obtain ⟨wo, hwo⟩ : ∃ wo, wo = wr := ⟨_, rfl⟩
            subst hwo
            go_wp2
            go_loopw [10, 45] (fun T i wr => ∃ t : Nat, t ≤ K ∧ i = .int .i64 t ∧ T = .int .i64 (timesR R (J.take t) 0 1) ∧ Below wo.heap.size wo wr) (fun _ i _ => K - (intOf i).toNat)
            case atStart => exact ⟨0, Nat.zero_le _, rfl, rfl, Below.refl _ _⟩
            case round =>
              obtain ⟨t, ht, rfl, rfl, hbt⟩ := hrel
              by_cases hltt : t < K
              · have htJ : t < J.length := by rw [← HKJ.out]; exact hltt
                obtain ⟨jb, jo, rfl, _, hjc⟩ := (HJO.out.below hbt) t (by rw [castL_len]; exact htJ)
                obtain ⟨db, dof, rb, ro, rc, rfl, hh, hcs⟩ := row_cellsA (HRO.out.below hbt) (t := t) (by rw [HRL.out]; exact hltt) HRK.out.wid hk1
                have hp0 := HRK.out.pv t htJ
                have hsn := timesR_snoc R J[t] (J.take t) 0 1
                rw [← List.take_succ_eq_append_getElem htJ, List.length_take, Nat.zero_add, show min t J.length = t by omega] at hsn
                obtain ⟨hT0, hT1⟩ := HRK.out.times t (by rw [← HKJ.out]; exact ht)
                obtain ⟨hT2, hT3⟩ := HRK.out.times (t + 1) htJ
                rw [castL_get htJ] at hjc
                have hx2 := (HRK.out.bnd t J[t]).2
                obtain ⟨p, hp⟩ : ∃ p, p = J[t] := ⟨_, rfl⟩
                rw [← hp] at hp0 hsn hjc hx2
                have c1 := hcs p hp0.2
                obtain ⟨x, hx⟩ : ∃ x, x = vec (R[t]?.getD []) p := ⟨_, rfl⟩
                rw [← hx] at c1 hp0 hsn hx2
                obtain ⟨hx1, hpk⟩ := hp0
                obtain ⟨T, hT⟩ : ∃ T, T = timesR R (J.take t) 0 1 := ⟨_, rfl⟩
                rw [← hT] at hT0 hT1 hsn ⊢
                rw [hsn] at hT2 hT3
                have HD1 := hid (fun (W : World) => r3divisor_c W T x (by omega) (by omega))
                have hg0 : 0 < ((Int.gcd T x : Nat) : Int) := by
                  have : 0 < Int.gcd T x := Int.gcd_pos_of_ne_zero_left _ (by omega)
                  omega
                obtain ⟨g, hg⟩ : ∃ g : Int, g = (Int.gcd T x : Nat) := ⟨_, rfl⟩
                rw [← hg] at HD1 hg0 hsn hT2 hT3
                have HSN := hid hsn
                have hgz : ¬ (g = 0) := by omega
                have htd := tdiv_bnd (show 1 ≤ g by omega) (show -(720 : Int) ≤ T ∧ T ≤ 720 by omega)
                have hw1 : IntKind.i64.wrap (T.tdiv g) = T.tdiv g := IntWalk.i64_in _ (by omega)
                have hw2 : IntKind.i64.wrap (T.tdiv g * x) = T.tdiv g * x := IntWalk.i64_in _ (by omega)
                have i1 : (0 : Int) ≤ (t : Int) := by omega
                have i2 : (t : Int) < (K : Int) := by omega
                have i3 : (0 : Int) ≤ (p : Int) := by omega
                have i4 : (p : Int) < (rn0 : Int) := by omega
                have HBT := hid hbt
                clear hp hx hT hsn hg hcs htJ hbt
                go_wp2
                go_quiet ((go_at_call 122; exact Calls.quiet_of (HD1.out _)))
                go_wp2
                exact ⟨⟨t + 1, by omega, by go_num, by rw [HSN.out], below_drewN HBT.out _⟩, by simp [intOf]; omega⟩
              · obtain rfl : K = t := by omega
                have e : J.take K = J := List.take_of_length_le (by rw [HKJ.out]; exact Nat.le_refl _)
                obtain ⟨hT0, hT1⟩ := HRK.out.times K (by rw [← HKJ.out]; exact Nat.le_refl _)
                rw [e] at hT0 hT1 ⊢
                obtain ⟨T, hT⟩ : ∃ T, T = timesR R J 0 1 := ⟨_, rfl⟩
                rw [← hT] at hT0 hT1 ⊢
                have HTT := hid hT
                have HB5 := hid hbt
                obtain ⟨w5, hw5⟩ : ∃ w5, w5 = wr := ⟨_, rfl⟩
                subst hw5
                have hmk : ∀ w, (Instr.makeSlice 31 (.int .i64 (rn0 : Int)) (.int .i64 (rn0 : Int))).run Try.prog w = .ok (.slice (some ⟨w.heap.size, 0, none⟩) rn0 rn0) (w.alloc (.cells (madeCells #[.int .i64 0] rn0) 3)) :=
                  fun w => run_make_row' 31 3 (.int .i64 0) 8 Try.underlying31 li_int rfl .i64 .i64 rn0 (by omega) (by omega) w
                obtain ⟨h0, hh0⟩ : ∃ h0, h0 = (List.replicate rn0 (0 : Int)).set f T := ⟨_, rfl⟩
                have hh0l : h0.length = rn0 := by rw [hh0]; simp
                obtain ⟨w7, hw7⟩ : ∃ w7, w7 = w5.alloc (.cells ((madeCells #[.int .i64 0] rn0).setIfInBounds f (.int .i64 T)) 3) := ⟨_, rfl⟩
                have hr7 : SpRow w7 w5.heap.size h0 := by rw [hw7, hh0]; exact sp_made_set w5 rn0 f T
                have hb7 : Below w5.heap.size w5 w7 := by rw [hw7]; exact (Below.refl _ _).alloc (Nat.le_refl _) _
                have hs7 : w7.heap.size = w5.heap.size + 1 := by rw [hw7]; simp
                have hc5 : w5.cell? ⟨b0, off0, none⟩ = some (.slice ra0 rn0 rc0) := (hbt.cell (p := ⟨b0, off0, none⟩) hbOs).trans hcO
                have i5 : (0 : Int) ≤ (f : Int) := by omega
                have i6 : (f : Int) < (rn0 : Int) := by omega
                have HSET6 := hid hr7
                have HH0 := hid hh0
                have HW7 := hid hw7
                have HB7 := hid hb7
                have HL0 := hid hh0l
                clear e hT hbt hh0 hr7 hb7 hw7 hh0l
                have hmsz : (madeCells #[Value.int .i64 0] rn0).size = rn0 := by rw [size_madeCells]
                go_wp2
                rw [← HW7.out]
                clear hmk hmsz
                go_loopw [81] (fun i wr => ∃ s : Nat, s ≤ K ∧ i = .int .i64 s ∧ SpRow wr w5.heap.size (fillF (valR R f T) (J.take s) 0 h0) ∧ Keep (fun q => q ≠ w5.heap.size) w7 wr) (fun i _ => K - (intOf i).toNat)
                case atStart => exact ⟨0, Nat.zero_le _, rfl, HSET6.out, Keep.refl _ _⟩
                case round =>
                  obtain ⟨s, hs, rfl, hr, hkp⟩ := hrel
                  have hb57 : Below w5.heap.size w5 wr := hkp.below HB7.out (by omega) (fun q hq => by omega)
                  have hbo := chain HB5.out hb57
                  by_cases hlts : s < K
                  · have htJ : s < J.length := by rw [← HKJ.out]; exact hlts
                    obtain ⟨jb, jo, rfl, _, hjc⟩ := (HJO.out.below hbo) s (by rw [castL_len]; exact htJ)
                    obtain ⟨db, dof, rb, ro, rc, rfl, hh, hcs⟩ := row_cellsA (HRO.out.below hbo) (t := s) (by rw [HRL.out]; exact hlts) HRK.out.wid hk1
                    have hp0 := HRK.out.pv s htJ
                    have hsn := fillF_snoc (valR R f T) J[s] (J.take s) 0 h0
                    rw [← List.take_succ_eq_append_getElem htJ, List.length_take, Nat.zero_add, show min s J.length = s by omega] at hsn
                    rw [castL_get htJ] at hjc
                    obtain ⟨p, hp⟩ : ∃ p, p = J[s] := ⟨_, rfl⟩
                    rw [← hp] at hp0 hsn hjc
                    have c1 := hcs p hp0.2
                    have c2 := hcs f hlt
                    have hxb := HRK.out.bnd s f
                    have hval : valR R f T s p = -(vec (R[s]?.getD []) f) * T.tdiv (vec (R[s]?.getD []) p) := rfl
                    have hvb := valR_le HRK.out (f := f) hT0 hT1 s p
                    obtain ⟨x, hx⟩ : ∃ x, x = vec (R[s]?.getD []) p := ⟨_, rfl⟩
                    obtain ⟨y, hy⟩ : ∃ x, x = vec (R[s]?.getD []) f := ⟨_, rfl⟩
                    rw [← hx] at c1 hp0 hval
                    rw [← hy] at c2 hxb hval
                    rw [hval] at hsn hvb
                    obtain ⟨hx1, hpk⟩ := hp0
                    have hlenF : (fillF (valR R f T) (J.take s) 0 h0).length = rn0 := by rw [fillF_len, HL0.out]
                    have c3 := hr.cell (j := p) (by rw [hlenF]; exact hpk)
                    obtain ⟨z3, hz3⟩ : ∃ z, z = (fillF (valR R f T) (J.take s) 0 h0)[p]?.getD 0 := ⟨_, rfl⟩
                    rw [← hz3] at c3
                    have c4 := hr.frozen p
                    have HSET := hid (fun (X : World) (hX : X.heap[w5.heap.size]? = wr.heap[w5.heap.size]?) v => (hr.keep hX).set p (by rw [hlenF]; exact hpk) v)
                    have hgs := hr.lt
                    have HSN := hid hsn
                    have HKP := hid hkp
                    have td := tdiv_bnd (show 1 ≤ x by omega) (show -(720 : Int) ≤ T ∧ T ≤ 720 by omega)
                    have wn : IntKind.i64.wrap (-y) = -y := IntWalk.i64_in _ (by omega)
                    have wq : IntKind.i64.wrap (T.tdiv x) = T.tdiv x := IntWalk.i64_in _ (by omega)
                    have wm : IntKind.i64.wrap (-y * T.tdiv x) = -y * T.tdiv x := IntWalk.i64_in _ (by omega)
                    have hxz : ¬ (x = 0) := by omega
                    have i1 : (0 : Int) ≤ (s : Int) := by omega
                    have i2 : (s : Int) < (K : Int) := by omega
                    have i3 : (0 : Int) ≤ (p : Int) := by omega
                    have i4 : (p : Int) < (rn0 : Int) := by omega
                    clear hp hx hy hsn hcs htJ hval hlenF hz3 hr hkp hb57 hbo td hvb
                    go_wp2
                    go_still_tail 21, (by kernel_rfl)
                    change wpList _ _ _ _ _ wr.drew
                    go_wp2
                    refine ⟨⟨s + 1, by omega, by go_num, ?_, (HKP.out.drewN 1).trans (Keep.set wr.drew w5.heap.size p _)⟩, by simp [intOf]; omega⟩
                    rw [HSN.out]
                    exact HSET.out wr.drew rfl _
                  · obtain rfl : K = s := by omega
                    have e : J.take K = J := List.take_of_length_le (by rw [HKJ.out]; exact Nat.le_refl _)
                    rw [e] at hr
                    have hraw : fillF (valR R f T) J 0 h0 = rawR R J rn0 f := by unfold rawR; rw [HH0.out, HTT.out]
                    rw [hraw] at hr
                    have hbR : BndL 4611686018427387904 (rawR R J rn0 f) := fun x hx => by
                      have := HRAW.out f x hx
                      omega
                    have HSH := hid (r3primitive_c wr (some ⟨w5.heap.size, 0, none⟩) rn0 rn0 (rawR R J rn0 f) (rawR_len R J rn0 f) hk9 hr.ints hbR)
                    have HBO := hid hbo
                    clear e hraw hr hbR hkp hb57 hbo
                    go_wp2_with (go_at_call 77; refine HSH.out.mono ?_; rintro e w8 ⟨v8, rfl, ho8, hb8⟩; refine Stop.of ?_)
                    refine Stop.go ?_
                    have hbo8 : Below wo.heap.size wo w8 := chain HBO.out hb8
                    obtain ⟨X, hX⟩ : ∃ X, X = kerR R J rn0 f := ⟨_, rfl⟩
                    have hXs : primF (rawR R J rn0 f) = X := hX.symm
                    have hXl : X.length = rn0 := by rw [hX, kerR_len]
                    rw [hXs] at ho8
                    obtain ⟨xa, xc, rfl⟩ := ownsRow_slice ho8
                    have hrs := rowS_own ho8 hXl
                    have hkt := kernRTo_out (R := R) (n := rn0) HFN.out
                    rw [← hX] at hkt
                    have hle := kernRTo_le R J rn0 f
                    obtain ⟨Kt, hKt⟩ : ∃ Kt, Kt = kernRTo R J rn0 f := ⟨_, rfl⟩
                    have HO' := HO.out
                    rw [← hKt] at hkt hle HO'
                    obtain ⟨vs, ho1, ho2⟩ := HO'
                    obtain ⟨m, hm⟩ : ∃ m, m = Kt.length := ⟨_, rfl⟩
                    have ho1' := ho1
                    rw [← hm] at ho1' hle
                    obtain ⟨va, vc, rfl⟩ := ownsRow_slice ho1'
                    have hb2a : Below wo.heap.size wo (w8.alloc (.cells #[.slice xa rn0 xc] 31)) := hbo8.alloc hbo8.size _
                    have M1 := hid (show m + 1 ≤ maxLen by unfold maxLen; omega)
                    have M2 := hid (show (m + 1) * 24 ≤ 140737488355328 by omega)
                    have M3 := hid (Nat.le_trans HBK.out.size hb2a.size)
                    have HO2' := hid (own_below ho1' hb2a)
                    have HO1 := hid ho1
                    have HO2 := hid ho2
                    have HRS := hid (hrs.below ((Below.refl _ w8).alloc (Nat.le_refl _) (.cells #[.slice xa rn0 xc] 31)))
                    have HB2' := hid hb2a
                    have HML := hid hm
                    have HKT := hid hkt
                    clear hb2a ho1 ho1' ho2 hX hXs hXl hkt hle hKt hm hbo8 ho8 hb8 hrs
                    go_wp2_with (at_builtin; refine wpList_app _ rfl (.tmp 108) (.tmp 111) 22 rfl w1.heap.size 31 (.slice none 0 0) 1 24 Try.underlying22 li_ints rfl Nat.one_pos (.slice va m vc) m vs rfl HO2'.out (some ⟨w8.heap.size, 0, none⟩) 1 1 [.slice xa rn0 xc] rfl rfl no_none (one_news w8 _ _) (slice_oneCell _ _ _) M1.out M2.out M3.out ?_; refine Stop.of ?_)
                    refine Stop.go ?_
                    intro a5 c5 w9 own5 g5
                    have hsn9 : TabS w9 w1.heap.size (.slice a5 (m + 1) c5) (Kt ++ [X]) := TabS.snoc HO1.out HO2.out HB2'.out HRS.out g5 (by rw [← HML.out]; exact own5)
                    have hB9 : Below w1.heap.size w1 w9 := (HBK.out.trans (HB2'.out.mono HBK.out.size)).grown g5 M3.out (fun q hq => (HO2'.out.lt q hq).1)
                    rw [← HKT.out] at hsn9
                    go_wp2
                    exact ⟨⟨f + 1, by omega, by go_num, hsn9, hB9⟩, by simp [intOf]; omega⟩
          · have hkt := kernRTo_in (R := R) (n := rn0) hfJ
            have HKT := hid hkt
            clear e hfJ hkt
            go_wp2
            exact ⟨⟨f + 1, by omega, by go_num, by rw [HKT.out]; exact HO.out, HBK.out⟩, by simp [intOf]; omega⟩
    · obtain rfl : rn0 = f := by omega
      rw [kernRTo_all] at ho
      have HO := hid ho
      have HB := hid (HBW.out.trans (hbk.mono hsz))
      clear ho hbk
      go_wp2
      go_ret
      exact ⟨_, w1.heap.size, rfl, hsz, HO.out, HB.out⟩
end Go.Proofs.Ytfipebkhomppmaa

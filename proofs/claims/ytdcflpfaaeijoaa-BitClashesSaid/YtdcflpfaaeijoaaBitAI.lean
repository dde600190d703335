/- Walk: Play of the reference. -/
import Derived.Test.YtdcflpfaaeijoaaBitAH
namespace Go.Proofs.Ytdcflpfaaeijoaa
open Go.RowKit Go.Maps
set_option linter.unusedVariables false

set_option maxRecDepth 100000 in
set_option maxHeartbeats 4000000 in
theorem refPlayP_c (w : World) (p t : Int) (a1 : Option Addr) (n1 cap1 : Nat) (ls : List (List Int)) (hn1 : ls.length = n1) (hm1 : n1 ≤ maxLen) (H1 : RowsAt w a1 ls)
    (a2 : Option Addr) (n2 cap2 : Nat) (x : List Int) (hn2 : x.length = n2) (hm2 : n2 ≤ maxLen) (H2 : IntsAt w a2 x) (most : Int) :
    Calls Try.prog 50 #[.agg #[.int .i64 p, .int .i64 t], .slice a1 n1 cap1, .slice a2 n2 cap2, .int .i64 most] w fun e w' => ∃ ra rn rc, e = .returned (.tuple #[.slice ra rn rc, .int .i64 (playE p t ls x most)]) ∧
      (playV p t ls x most).length = rn ∧ rn ≤ maxLen ∧ CellsAt w' ra (playV p t ls x most) ∧ Below w.heap.size w w' := by
  obtain ⟨wf, hwf⟩ : ∃ wf, wf = w.alloc (.cells #[.int .i64 p, .int .i64 t] 23) := ⟨_, rfl⟩
  have hb0 : Below w.heap.size w wf := by rw [hwf]; exact (Below.refl _ _).alloc (Nat.le_refl _) _
  have HF := hid (fun (W : World) (hb : Below wf.heap.size wf W) => show W.cell? ⟨w.heap.size, 0, none⟩ = some (.int .i64 p) ∧ W.cell? ⟨w.heap.size, 1, none⟩ = some (.int .i64 t) from by
    have hz : wf.heap.size = w.heap.size + 1 := by rw [hwf]; simp
    refine ⟨(hb.cell (p := ⟨w.heap.size, 0, none⟩) (show w.heap.size < wf.heap.size by omega)).trans ?_, (hb.cell (p := ⟨w.heap.size, 1, none⟩) (show w.heap.size < wf.heap.size by omega)).trans ?_⟩ <;> (rw [hwf, World.cell?_alloc_at _ _ _ _ rfl]; rfl))
  have HB := hid (fun (W : World) (hb : Below wf.heap.size wf W) => chain hb0 hb)
  have HV := hid (fun (W : World) => refValidField_c p t W)
  have HR := hid (fun (W : World) (hb : Below w.heap.size w W) => validRows_c W p t a1 n1 cap1 ls hn1 hm1 (H1.below hb))
  have HP := hid (fun (W : World) (hb : Below w.heap.size w W) => refPicture_c W p t a2 n2 cap2 x hn2 hm2 (H2.below hb))
  cases hok : okField p t && rowsOk p ls
  · have e0 : playE p t ls x most = 1 := by simp only [playE, hok]; rfl
    have e1 : playV p t ls x most = [] := by rw [playV, e0]; rfl
    rw [e0, e1]
    clear e0 e1 hn1 H1 hn2 H2
    cases h1 : okField p t
    · rw [h1] at HV
      go_enter Try.func50, Try.ntmps50
      go_wp2_with fail
      rw [← hwf]
      clear hwf
      refine (HV.out _).mono ?_
      rintro e w1 ⟨rfl, hb1⟩
      go_wp2
      go_ret2
      exact ⟨none, 0, 0, rfl, rfl, by decide, fun j hj => by simp at hj, HB.out _ hb1⟩
    · rw [h1] at HV
      rw [h1, Bool.true_and] at hok
      rw [hok] at HR
      go_enter Try.func50, Try.ntmps50
      go_wp2_with fail
      rw [← hwf]
      clear hwf
      refine (HV.out _).mono ?_
      rintro e w1 ⟨rfl, hb1⟩
      obtain ⟨f0, f1⟩ := HF.out _ hb1
      go_wp2_with (go_at_call 89; refine (HR.out _ (HB.out _ hb1)).mono ?_; rintro e w2 ⟨rfl, hb2⟩)
      go_ret2
      exact ⟨none, 0, 0, rfl, rfl, by decide, fun j hj => by simp at hj, HB.out _ (chain hb1 hb2)⟩
  obtain ⟨hfd, hrk⟩ := (Bool.and_eq_true _ _).mp hok
  rw [hfd] at HV
  rw [hrk] at HR
  by_cases hpe : picE p t x = 0
  rotate_left
  · have e0 : playE p t ls x most = picE p t x := by simp only [playE, hok, if_neg hpe]; rfl
    have e1 : playV p t ls x most = [] := by rw [playV, e0, if_neg hpe]
    have hpe' : (picE p t x != 0) = true := by simp [hpe]
    rw [e0, e1]
    have HPE := hid hpe
    clear e0 e1 hn1 H1 hn2 H2 hpe
    obtain ⟨EP, hEP⟩ : ∃ E, E = picE p t x := ⟨_, rfl⟩
    rw [← hEP] at HP hpe' ⊢
    clear hEP
    go_enter Try.func50, Try.ntmps50
    go_wp2_with fail
    rw [← hwf]
    clear hwf
    refine (HV.out _).mono ?_
    rintro e w1 ⟨rfl, hb1⟩
    obtain ⟨f0, f1⟩ := HF.out _ hb1
    go_wp2_with (first
      | (go_at_call 89; refine (HR.out _ (HB.out _ hb1)).mono ?_; rintro e w2 ⟨rfl, hb2⟩; have hbw2 := chain hb1 hb2; obtain ⟨g0, g1⟩ := HF.out _ hbw2)
      | (go_at_call 56; refine (HP.out _ (HB.out _ hbw2)).mono ?_; rintro e w3 ⟨rfl, hb3⟩))
    go_ret2
    exact ⟨none, 0, 0, rfl, rfl, by decide, fun j hj => by simp at hj, HB.out _ (chain hbw2 hb3)⟩
  rw [hpe] at HP
  cases hin : inB (n1 : Int) 1 20 && inB most 0 30
  · have e0 : playE p t ls x most = 7 := by simp only [playE, hok, if_pos hpe, hn1, hin]; rfl
    have e1 : playV p t ls x most = [] := by rw [playV, e0]; rfl
    rw [e0, e1]
    have HPE := hid hpe
    unfold maxLen at hm1
    clear e0 e1 hn1 H1 hn2 H2 hpe
    cases hi1 : inB (n1 : Int) 1 20
    all_goals
      rw [hi1] at hin
      try simp only [Bool.true_and] at hin
      go_enter Try.func50, Try.ntmps50
      go_wp2_with fail
      rw [← hwf]
      clear hwf
      refine (HV.out _).mono ?_
      rintro e w1 ⟨rfl, hb1⟩
      obtain ⟨f0, f1⟩ := HF.out _ hb1
      go_wp2_with (first
        | (go_at_call 89; refine (HR.out _ (HB.out _ hb1)).mono ?_; rintro e w2 ⟨rfl, hb2⟩; have hbw2 := chain hb1 hb2; obtain ⟨g0, g1⟩ := HF.out _ hbw2)
        | (go_at_call 56; refine (HP.out _ (HB.out _ hbw2)).mono ?_; rintro e w3 ⟨rfl, hb3⟩)
        | (go_at_call 60; refine (in_c _ _ _ _).mono ?_; rintro e w4 ⟨rfl, rfl⟩))
      go_ret2
      exact ⟨none, 0, 0, rfl, rfl, by decide, fun j hj => by simp at hj, HB.out _ (chain hbw2 hb3)⟩
  obtain ⟨hi1, hi2⟩ := (Bool.and_eq_true _ _).mp hin
  have e0 : playE p t ls x most = 0 := by simp only [playE, hok, if_pos hpe, hn1, hin]; rfl
  obtain ⟨p1, p8, t0, t3⟩ := okField_bd hfd
  obtain ⟨P, rfl⟩ := Int.eq_ofNat_of_zero_le (show 0 ≤ p by omega)
  obtain ⟨T, rfl⟩ := Int.eq_ofNat_of_zero_le t0
  have hP : P ≤ 8 := by omega
  have hT : T ≤ 3 := by omega
  have hm0 : 0 ≤ most ∧ most ≤ 30 := by simpa [inB] using hi2
  have hnn : 1 ≤ n1 ∧ n1 ≤ 20 := by simp [inB] at hi1; omega
  obtain ⟨m0, m30⟩ := hm0
  obtain ⟨n10, n20⟩ := hnn
  obtain ⟨M, rfl⟩ := Int.eq_ofNat_of_zero_le m0
  have e1 : playV (P : Int) (T : Int) ls x (M : Int) = playN P T ls x M [] := by rw [playV, if_pos e0]; rfl
  rw [e0, e1]
  have hx2 : n2 = P := by
    unfold picE at hpe
    by_cases h : (x.length : Int) = P
    · omega
    · rw [if_pos h] at hpe; omega
  have hrl : ∀ k, k < n1 → (ls[k]?.getD []).length = P := fun k hk => by
    have hkl : k < ls.length := by rw [hn1]; exact hk
    rw [List.getElem?_eq_getElem hkl]
    have := (okRow_len (List.all_eq_true.1 hrk _ (List.getElem_mem hkl))).1
    show (ls[k]).length = P
    omega
  have HRL := hid hrl
  have hfl : ∀ L : List Cel, ∀ y ∈ fitting P T L, ∀ r ∈ ls, r.length ≤ y.length := fun L y hy r hr => by
    have h1 := fitting_len hy
    have h2 := (okRow_len (List.all_eq_true.1 hrk r hr)).1
    omega
  have HL := hid (fun (W : World) (a3 : Option Addr) (n3 c3 : Nat) (L : List Cel) (h3 : L.length = n3) (h4 : n3 ≤ maxLen) (H3 : CellsAt W a3 L) (h5 : ∀ c ∈ L, c.row.length ≤ P) => refFitting_c W P T hP hT a3 n3 c3 L h3 h4 H3 h5)
  have HNX := hid (fun (W : World) (hb : Below w.heap.size w W) (L : List Cel) (a3 : Option Addr) (n3 c3 : Nat) (h3 : (fitting P T L).length = n3) (H3 : RowsAt W a3 (fitting P T L)) =>
    refNext_c W a3 n3 c3 (fitting P T L) h3 (by rw [← h3]; exact fitting_le hP hT L) H3 a1 n1 cap1 ls hn1 (by omega) hm1 (H1.below hb) (hfl L))
  have HBT := hid (fun (W : World) (hb : Below w.heap.size w W) (k : Nat) (hk : k < n1) (b : Option Addr) (bn bc : Nat) (hbn : (ls[k]?.getD []).length = bn) (hi : IntsAt W b (ls[k]?.getD [])) (thr : Int) (t1 : -99 ≤ thr) (t2 : thr ≤ 100) =>
    refBit_c W b a2 bn bc n2 cap2 (ls[k]?.getD []) x hbn hn2 (by have := hrl k hk; omega) (by have := hrl k hk; omega) hi (H2.below hb) thr t1 t2)
  have HRA := hid (fun (W : World) (hb : Below w.heap.size w W) (k : Nat) (hk : k < n1) => rows_elem (H1.below hb) (k := k) (by rw [hn1]; exact hk))
  have HLN := hid (show ls.length = n1 from hn1)
  have HFZ := hid (fun L => fitting_le hP hT L)
  obtain ⟨i0, hi, hz0, hz1, hz2⟩ := info_parts info_cell
  clear e0 e1 hn1 H1 hn2 H2 hpe hin hok hfd hrk hrl hfl hx2 t0 m0 p1 p8 t3 hm2
  unfold maxLen at hm1
  go_enter Try.func50, Try.ntmps50
  go_wp2_with fail
  rw [← hwf]
  clear hwf
  refine (HV.out _).mono ?_
  rintro e w1 ⟨rfl, hb1⟩
  obtain ⟨f0, f1⟩ := HF.out _ hb1
  go_wp2_with (first
    | (go_at_call 89; refine (HR.out _ (HB.out _ hb1)).mono ?_; rintro e w2 ⟨rfl, hb2⟩; have hbw2 := chain hb1 hb2; obtain ⟨g0, g1⟩ := HF.out _ hbw2)
    | (go_at_call 56; refine (HP.out _ (HB.out _ hbw2)).mono ?_; rintro e w3 ⟨rfl, hb3⟩)
    | (go_at_call 60; refine (in_c _ _ _ _).mono ?_; rintro e w4 ⟨rfl, rfl⟩))
  clear f0 f1 g0 g1
  have hbw3 := chain hbw2 hb3
  obtain ⟨B0, hB0⟩ : ∃ B, B = w3.heap.size := ⟨_, rfl⟩
  have HB0 := hid hB0
  clear hB0
  go_loopw [11] (fun out wr => ∃ L : List Cel, L.length ≤ M ∧ Below wf.heap.size wf wr ∧ Hid (B0 ≤ wr.heap.size ∧ CelsO 41 (fun k => B0 ≤ k) wr B0 out L ∧ (∀ c ∈ L, c.row.length ≤ P) ∧ playN P T ls x (M - L.length) L = playN P T ls x M [])) (fun out _ => M - lenV out)
  case atStart => exact ⟨[], Nat.zero_le _, hbw3, hid ⟨by rw [HB0.out]; exact Nat.le_refl _, CelsO.nil _ _ _ _, fun c hc => by simp at hc, rfl⟩⟩
  case round =>
    obtain ⟨L, hLM, hb, HH⟩ := hrel
    obtain ⟨f0, f1⟩ := HF.out _ hb
    obtain ⟨oa, oc, rfl, hom, hoc⟩ := HH.out.2.1.reads
    obtain ⟨F, hF⟩ : ∃ F, F = fitting P T L := ⟨_, rfl⟩
    have HOC := hid hoc
    have HL1 := HL.out wr oa _ oc L rfl hom hoc HH.out.2.2.1
    have HNX1 := HNX.out
    obtain ⟨ln, hln⟩ : ∃ n, n = L.length := ⟨_, rfl⟩
    rw [← hln] at hLM hom HL1 ⊢
    rw [← hF] at HL1
    have HL2 := hid HL1
    have HFF := hid hF
    have hfz := HFZ.out L
    rw [← hF] at hfz
    obtain ⟨fn, hfn⟩ : ∃ n, n = F.length := ⟨_, rfl⟩
    rw [← hfn] at hfz
    obtain ⟨R, hR⟩ : ∃ R, R = bestR F ls (n1 - 1) := ⟨_, rfl⟩
    have hRn : R < n1 := by have := bestR_le F ls (n1 - 1); omega
    have hth := rT_in F ls R
    have hll := rG_rL F ls R
    obtain ⟨TH, hTH⟩ : ∃ R', R' = rT F ls R := ⟨_, rfl⟩
    obtain ⟨LL, hLL⟩ : ∃ R', R' = rL F ls R := ⟨_, rfl⟩
    obtain ⟨GG, hGG⟩ : ∃ R', R' = rG F ls R := ⟨_, rfl⟩
    rw [← hTH] at hth
    rw [← hLL, ← hGG, ← hfn] at hll
    have HNX2 := hid (fun (W : World) (hbW : Below w.heap.size w W) (a3 : Option Addr) (c3 : Nat) (H3 : RowsAt W a3 F) => show Calls Try.prog 90 #[.slice a3 fn c3, .slice a1 n1 cap1] W fun e w' => e = .returned (.tuple #[.int .i64 (R : Nat), .int .i64 TH, .int .i64 (GG : Nat)]) ∧ Below W.heap.size W w' from by
      rw [hR, hTH, hGG, hR, hF]
      exact HNX1 W hbW L a3 fn c3 (by rw [hfn, hF]) (by rw [← hF]; exact H3))
    have hstep : playStep P T ls x L = if fn ≤ 1 ∨ LL = 0 then none else some (bitC (ls[R]?.getD []) x TH) := by
      unfold playStep
      rw [← hF, HLN.out, ← hR, ← hTH, ← hLL, ← hfn]
    have HSTEP := hid hstep
    have HLen := hid hln
    have HFN := hid hfn
    obtain ⟨th1, th2⟩ := hth
    unfold maxLen at hom
    clear hoc hstep HNX1 HL1 hF hfn hln hR hTH hLL hGG
    have fin : ∀ W, Below wr.heap.size wr W → playN P T ls x (M - ln) L = L → (playN P T ls x M []).length = ln ∧ ln ≤ maxLen ∧ CellsAt W oa (playN P T ls x M []) ∧ Below w.heap.size w W := by
      intro W hW hL
      have h4 := HH.out.2.2.2
      rw [← HLen.out] at h4
      rw [← h4, hL]
      exact ⟨HLen.out.symm, by unfold maxLen; omega, HOC.out.below hW, HB.out _ (chain hb hW)⟩
    have FIN := hid fin
    clear fin
    by_cases hlm : ln < M
    rotate_left
    · have hd := hid (show playN P T ls x (M - ln) L = L by rw [show M - ln = 0 by omega]; rfl)
      go_wp2
      go_ret2
      have hq := FIN.out _ (Below.refl _ _) hd.out
      first
        | exact ⟨_, _, _, rfl, hq⟩
        | exact ⟨_, _, ⟨_, rfl⟩, hq⟩
    go_wp2_with (go_at_call 71; refine HL2.out.mono ?_; rintro e w5 ⟨v5, base, rfl, hbase, hR5, hb5⟩; refine Stop.of ?_)
    refine Stop.go ?_
    obtain ⟨pa, pc, rfl, hpm, hpr, _⟩ := hR5.reads
    rw [← HFN.out]
    have HNX3 := hid (HNX2.out w5 (HB.out _ (chain hb hb5)) pa pc hpr)
    clear hR5 hpr hpm hbase
    have hbw5 := chain hb hb5
    by_cases hf1 : fn ≤ 1
    · have hd := hid (playN_none (k := M - ln) (HSTEP.out.trans (if_pos (.inl hf1))))
      go_wp2_with (go_at_call 90; refine HNX3.out.mono ?_; rintro e w6 ⟨rfl, hb6⟩)
      go_ret2
      have hq := FIN.out _ (chain hb5 hb6) hd.out
      first
        | exact ⟨_, _, _, rfl, hq⟩
        | exact ⟨_, _, ⟨_, rfl⟩, hq⟩
    by_cases hl0 : GG = fn
    · have hd := hid (playN_none (k := M - ln) (HSTEP.out.trans (if_pos (.inr (by omega)))))
      clear hll
      subst hl0
      go_wp2_with (go_at_call 90; refine HNX3.out.mono ?_; rintro e w6 ⟨rfl, hb6⟩)
      go_ret2
      have hq := FIN.out _ (chain hb5 hb6) hd.out
      first
        | exact ⟨_, _, _, rfl, hq⟩
        | exact ⟨_, _, ⟨_, rfl⟩, hq⟩
    have hl0' : ((GG : Int) == (fn : Int)) = false := by simp; omega
    have HL0 := hid (show LL ≠ 0 by omega)
    have hgb : GG ≤ 65536 := by omega
    clear hl0 hll
    go_wp2_with (go_at_call 90; refine HNX3.out.mono ?_; rintro e w6 ⟨rfl, hb6⟩; refine Stop.of ?_)
    refine Stop.go ?_
    have hbw6 := chain hbw5 hb6
    have hb56 := chain hb5 hb6
    obtain ⟨rb, roff, ra, rn, rc, rfl, hrs, hrcell, hrn, hrm, hri⟩ := HRA.out _ (HB.out _ hbw6) R hRn
    have HBT2 := hid (HBT.out _ (HB.out _ hbw6) R hRn ra rn rc hrn hri TH th1 th2)
    have HC := hid (bitC_row (ls[R]?.getD []) x TH)
    obtain ⟨C, hC⟩ : ∃ C, C = bitC (ls[R]?.getD []) x TH := ⟨_, rfl⟩
    rw [← hC] at HBT2 HSTEP HC
    clear hC hrn hri
    go_wp2_with (go_at_call 75; refine HBT2.out.mono ?_; rintro e w7 ⟨v7, rfl, hcf, hb7⟩; refine Stop.of ?_)
    refine Stop.go ?_
    obtain ⟨qa, qn, qc, rfl, hq1, hq2, hq3⟩ := hcf
    have hb7w := chain hb56 hb7
    obtain ⟨w8, hw8⟩ : ∃ w8, w8 = w7.alloc (.cells #[.slice qa qn qc, .int .i64 C.lo, .int .i64 C.hi] 41) := ⟨_, rfl⟩
    have hz8 : w8.heap.size = w7.heap.size + 1 := by rw [hw8]; simp
    have hb78 : Below w7.heap.size w7 w8 := by rw [hw8]; exact (Below.refl _ _).alloc (Nat.le_refl _) _
    have hnews : ∀ j u, [Value.slice qa qn qc, .int .i64 C.lo, .int .i64 C.hi][j]? = some u → w8.cell? ((⟨w7.heap.size, 0, none⟩ : Addr).add j) = some u := by
      intro j u hu
      rw [hw8]
      exact news3 w7 (.slice qa qn qc) (.int .i64 C.lo) (.int .i64 C.hi) 41 ⟨w7.heap.size, 0, none⟩ rfl j u hu
    have hbr8 := chain hb7w hb78
    obtain ⟨xs, ho8, hv8, hs8⟩ := HH.out.2.1.below hbr8
    have M1 := hid (show ln + 1 ≤ maxLen by unfold maxLen; omega)
    have M2 := hid (show (ln + 1) * 40 ≤ 140737488355328 by omega)
    have M3 := hid (show B0 ≤ w8.heap.size from Nat.le_trans HH.out.1 hbr8.size)
    have M4 := hid (CelVals.one' (CelVals.one (c := C) (W := w8) (cap := qc) hq1 hq2 (hq3.at.below hb78)))
    rw [← HLen.out] at ho8
    have HO8 := hid ho8
    have HV8 := hid hv8
    have HS8 := hid hs8
    have HNW := hid hnews
    have HZ8 := hid hz8
    have HW8 := hid hw8
    have HQ := hid (And.intro hq1 hq3)
    have HB8 := hid (And.intro hbr8 hb78)
    clear ho8 hv8 hs8 hnews hz8 hq1 hq3 hbr8 hb78 hw8
    go_wp2_with (at_builtin; refine Stop.of ?_)
    rw [← HW8.out]
    refine Stop.go ?_
    refine wpList_append_lies _ rfl (.tmp 63) (.tmp 71) 24 rfl B0 41 i0 (.agg #[.slice none 0 0, .int .i64 0, .int .i64 0]) 3 40 Try.underlying24 hi hz0 hz1 hz2 rfl (by decide) (.slice oa ln oc) ln xs rfl HO8.out ⟨w7.heap.size, 0, none⟩ 1 1 [.slice qa qn qc, .int .i64 C.lo, .int .i64 C.hi] rfl rfl HNW.out M4.out (by decide) M1.out M2.out M3.out _ rfl ?_
    intro g gcap w9 own9 g9 hlies hg9
    have hZ6 : wr.heap.size ≤ w7.heap.size := hb7w.size
    have hZ5 : wr.heap.size ≤ w6.heap.size := hb56.size
    have hown : ∀ k, Value.ownBlock (.slice oa ln oc) = some k → B0 ≤ k ∧ k < wr.heap.size := by
      intro k hk
      obtain ⟨xs', ho', _⟩ := HH.out.2.1
      rw [← HLen.out] at ho'
      exact ho'.lt k hk
    have hsep : SepA (fun k => B0 ≤ k) (Value.ownBlock (.slice oa ln oc)) C.row qa := by
      by_cases hnil : C.row = []
      · exact .inl hnil
      · right
        intro ad e
        obtain ⟨b, off, e2, h5, h6, _⟩ := HQ.out.2 0 (List.length_pos_iff.2 hnil)
        rw [e] at e2
        cases e2
        refine ⟨fun h => ?_, ?_⟩
        · have := (hown b h.symm).2; omega
        · have := HH.out.1; show B0 ≤ b; omega
    have hcels9 : CelsO 41 (fun k => B0 ≤ k) w9 B0 (.slice (some ⟨g, 0, none⟩) (ln + 1) gcap) (L ++ [C]) := by
      have e := HLen.out
      subst e
      refine CelsO.snoc HO8.out HV8.out HS8.out HQ.out.1 hq2 (HQ.out.2.at.below HB8.out.2) hsep g9 own9 ?_
      rcases hlies with h | h
      · exact .inl (by rw [h]; rfl)
      · exact .inr ⟨g, rfl, by omega⟩
    have hbw8 : Below wf.heap.size wf w8 := chain hb HB8.out.1
    have hB0f : wf.heap.size ≤ B0 := by rw [HB0.out]; exact hbw3.size
    have hbw9 : Below wf.heap.size wf w9 := hbw8.grown g9 hbw8.size (fun k hk => Nat.le_trans hB0f (hown k hk).1)
    have HCL := hid hcels9
    have HPN := hid (show playN P T ls x (M - ln) L = playN P T ls x (M - ln - 1) (L ++ [C]) from playN_some (by omega) (HSTEP.out.trans (if_neg (by have := HL0.out; omega))))
    have HZ9 := hid (show B0 ≤ w9.heap.size by have := HH.out.1; have := HZ8.out; have := g9.size; omega)
    have HX9 := hid hbw9
    have HRW := hid (show ∀ c ∈ L ++ [C], c.row.length ≤ P from fun c hc => by
      rcases List.mem_append.1 hc with h | h
      · exact HH.out.2.2.1 c h
      · obtain rfl : c = C := by simpa using h
        rw [HC.out, HRL.out R hRn]; exact Nat.le_refl _)
    clear own9 g9 hlies hg9 hown hsep hcels9 hbw8 hbw9
    go_wp2
    refine ⟨⟨L ++ [C], by rw [List.length_append, ← HLen.out]; exact hlm, HX9.out, hid ⟨HZ9.out, HCL.out, HRW.out, ?_⟩⟩, ?_⟩
    · rw [List.length_append, ← HLen.out]
      have h4 := HH.out.2.2.2
      rw [← HLen.out, HPN.out] at h4
      rw [← h4]; rfl
    · show M - (ln + 1) < M - ln
      omega
end Go.Proofs.Ytdcflpfaaeijoaa

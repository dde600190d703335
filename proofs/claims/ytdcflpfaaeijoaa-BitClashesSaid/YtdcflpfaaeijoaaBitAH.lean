/- Walk: Play of package bit. -/
import Derived.Test.YtdcflpfaaeijoaaBitAG
namespace Go.Proofs.Ytdcflpfaaeijoaa
open Go.RowKit Go.Maps
set_option linter.unusedVariables false

def lenV : Value → Nat
  | .slice _ n _ => n
  | _ => 0

theorem rowsE_nil (p t : Int) (ls : List (List Int)) : rowsE p t [] ls = if okField p t && rowsOk p ls then (if inB ls.length 1 20 then 0 else 7) else 1 := by
  rw [rowsE, okCells_nil]

set_option maxRecDepth 100000 in
set_option maxHeartbeats 4000000 in
theorem playP_c (w : World) (p t : Int) (a1 : Option Addr) (n1 cap1 : Nat) (ls : List (List Int)) (hn1 : ls.length = n1) (hm1 : n1 ≤ maxLen) (H1 : RowsAt w a1 ls)
    (a2 : Option Addr) (n2 cap2 : Nat) (x : List Int) (hn2 : x.length = n2) (hm2 : n2 ≤ maxLen) (H2 : IntsAt w a2 x) (most : Int) :
    Calls Try.prog 49 #[.agg #[.int .i64 p, .int .i64 t], .slice a1 n1 cap1, .slice a2 n2 cap2, .int .i64 most] w fun e w' => ∃ ra rn rc, e = .returned (.tuple #[.slice ra rn rc, .int .i64 (playE p t ls x most)]) ∧
      (playV p t ls x most).length = rn ∧ rn ≤ maxLen ∧ CellsAt w' ra (playV p t ls x most) ∧ Below w.heap.size w w' := by
  obtain ⟨wf, hwf⟩ : ∃ wf, wf = w.alloc (.cells #[.int .i64 p, .int .i64 t] 23) := ⟨_, rfl⟩
  have hb0 : Below w.heap.size w wf := by rw [hwf]; exact (Below.refl _ _).alloc (Nat.le_refl _) _
  have HF := hid (fun (W : World) (hb : Below wf.heap.size wf W) => show W.cell? ⟨w.heap.size, 0, none⟩ = some (.int .i64 p) ∧ W.cell? ⟨w.heap.size, 1, none⟩ = some (.int .i64 t) from by
    have hz : wf.heap.size = w.heap.size + 1 := by rw [hwf]; simp
    refine ⟨(hb.cell (p := ⟨w.heap.size, 0, none⟩) (show w.heap.size < wf.heap.size by omega)).trans ?_, (hb.cell (p := ⟨w.heap.size, 1, none⟩) (show w.heap.size < wf.heap.size by omega)).trans ?_⟩ <;> (rw [hwf, World.cell?_alloc_at _ _ _ _ rfl]; rfl))
  have HB := hid (fun (W : World) (hb : Below wf.heap.size wf W) => chain hb0 hb)
  have HR := hid (fun (W : World) (hb : Below w.heap.size w W) => rows_c W p t none 0 0 [] rfl (by decide) (fun j hj => by simp at hj) a1 n1 cap1 ls hn1 hm1 (H1.below hb))
  have HP := hid (fun (W : World) (hb : Below w.heap.size w W) => pictured_c W p t a2 n2 cap2 x hn2 hm2 (H2.below hb))
  have hmf : ∀ (fn : Fn) (first cap : Array Value) (w : World), (Instr.makeFunc fn first cap).run Try.prog w = .ok (.func fn first cap) w := fun _ _ _ _ => rfl
  have HE0 := hid (rowsE_nil p t ls)
  cases hok : okField p t && rowsOk p ls
  · have e0 : playE p t ls x most = 1 := by simp only [playE, hok]; rfl
    have e1 : playV p t ls x most = [] := by rw [playV, e0]; rfl
    have e2 : rowsE p t [] ls = 1 := by rw [rowsE_nil, hok]; rfl
    rw [e2] at HR
    rw [e0, e1]
    clear e0 e1 e2 hn1 H1 hn2 H2
    go_enter Try.func49, Try.ntmps49
    go_wp2_with fail
    rw [← hwf]
    clear hwf
    refine (HR.out _ hb0).mono ?_
    rintro e w1 ⟨rfl, hb1⟩
    go_wp2
    go_ret2
    exact ⟨none, 0, 0, rfl, rfl, by decide, fun j hj => by simp at hj, HB.out _ hb1⟩
  have e2 : rowsE p t [] ls = if inB ls.length 1 20 then 0 else 7 := by rw [rowsE_nil, hok]; rfl
  have he2 : (rowsE p t [] ls == 1) = false := by rw [e2]; split <;> rfl
  obtain ⟨E1, hE1⟩ : ∃ E, E = rowsE p t [] ls := ⟨_, rfl⟩
  rw [← hE1] at HR he2
  clear hE1 e2
  by_cases hpe : picE p t x = 0
  rotate_left
  · have e0 : playE p t ls x most = picE p t x := by simp only [playE, hok, if_neg hpe]; rfl
    have e1 : playV p t ls x most = [] := by rw [playV, e0, if_neg hpe]
    have hpe' : (picE p t x != 0) = true := by simp [hpe]
    rw [e0, e1]
    have HPE := hid hpe
    clear e0 e1 hn1 H1 hn2 H2 hpe
    obtain ⟨EP, hEP⟩ : ∃ E, E = picE p t x := ⟨_, rfl⟩
    rw [← hEP] at HP hpe' ⊢
    clear hEP
    go_enter Try.func49, Try.ntmps49
    go_wp2_with fail
    rw [← hwf]
    clear hwf
    refine (HR.out _ hb0).mono ?_
    rintro e w1 ⟨rfl, hb1⟩
    obtain ⟨f0, f1⟩ := HF.out _ hb1
    go_wp2_with (go_at_call 76; refine (HP.out _ (HB.out _ hb1)).mono ?_; rintro e w2 ⟨rfl, hb2⟩)
    go_ret2
    exact ⟨none, 0, 0, rfl, rfl, by decide, fun j hj => by simp at hj, HB.out _ (chain hb1 hb2)⟩
  rw [hpe] at HP
  cases hin : inB (n1 : Int) 1 20 && inB most 0 30
  · have e0 : playE p t ls x most = 7 := by simp only [playE, hok, if_pos hpe, hn1, hin]; rfl
    have e1 : playV p t ls x most = [] := by rw [playV, e0]; rfl
    rw [e0, e1]
    have HPE := hid hpe
    unfold maxLen at hm1
    clear e0 e1 hn1 H1 hn2 H2 hpe
    cases hi1 : inB (n1 : Int) 1 20
    · go_enter Try.func49, Try.ntmps49
      go_wp2_with fail
      rw [← hwf]
      clear hwf
      refine (HR.out _ hb0).mono ?_
      rintro e w1 ⟨rfl, hb1⟩
      obtain ⟨f0, f1⟩ := HF.out _ hb1
      go_wp2_with (first
        | (go_at_call 76; refine (HP.out _ (HB.out _ hb1)).mono ?_; rintro e w2 ⟨rfl, hb2⟩)
        | (go_at_call 59; refine (within_c _ _ _ _).mono ?_; rintro e w3 ⟨rfl, rfl⟩))
      go_ret2
      exact ⟨none, 0, 0, rfl, rfl, by decide, fun j hj => by simp at hj, HB.out _ (chain hb1 hb2)⟩
    · rw [hi1] at hin
      simp only [Bool.true_and] at hin
      go_enter Try.func49, Try.ntmps49
      go_wp2_with fail
      rw [← hwf]
      clear hwf
      refine (HR.out _ hb0).mono ?_
      rintro e w1 ⟨rfl, hb1⟩
      obtain ⟨f0, f1⟩ := HF.out _ hb1
      go_wp2_with (first
        | (go_at_call 76; refine (HP.out _ (HB.out _ hb1)).mono ?_; rintro e w2 ⟨rfl, hb2⟩)
        | (go_at_call 59; refine (within_c _ _ _ _).mono ?_; rintro e w3 ⟨rfl, rfl⟩))
      go_ret2
      exact ⟨none, 0, 0, rfl, rfl, by decide, fun j hj => by simp at hj, HB.out _ (chain hb1 hb2)⟩
  obtain ⟨hi1, hi2⟩ := (Bool.and_eq_true _ _).mp hin
  have e0 : playE p t ls x most = 0 := by simp only [playE, hok, if_pos hpe, hn1, hin]; rfl
  obtain ⟨hfd, hrk⟩ := (Bool.and_eq_true _ _).mp hok
  obtain ⟨p1, p8, t0, t3⟩ := okField_bd hfd
  obtain ⟨P, rfl⟩ := Int.eq_ofNat_of_zero_le (show 0 ≤ p by omega)
  obtain ⟨T, rfl⟩ := Int.eq_ofNat_of_zero_le t0
  have hP : P ≤ 8 := by omega
  have hT : T ≤ 3 := by omega
  have hm0 : 0 ≤ most ∧ most ≤ 30 := by simpa [inB] using hi2
  have hnn : 1 ≤ n1 ∧ n1 ≤ 20 := by simp [inB] at hi1; omega
  obtain ⟨m0, m30⟩ := hm0
  obtain ⟨n10, n20⟩ := hnn
  obtain ⟨M, rfl⟩ := Int.eq_ofNat_of_zero_le m0
  have e1 : playV (P : Int) (T : Int) ls x (M : Int) = playN P T ls x M [] := by rw [playV, if_pos e0]; rfl
  rw [e0, e1]
  have hx2 : n2 = P := by
    unfold picE at hpe
    by_cases h : (x.length : Int) = P
    · omega
    · rw [if_pos h] at hpe; omega
  have hrl : ∀ k, k < n1 → (ls[k]?.getD []).length = P := fun k hk => by
    have hkl : k < ls.length := by rw [hn1]; exact hk
    rw [List.getElem?_eq_getElem hkl]
    have := (okRow_len (List.all_eq_true.1 hrk _ (List.getElem_mem hkl))).1
    show (ls[k]).length = P
    omega
  have HRL := hid hrl
  have hfl : ∀ L : List Cel, ∀ y ∈ fitting P T L, ∀ r ∈ ls, r.length ≤ y.length := fun L y hy r hr => by
    have h1 := fitting_len hy
    have h2 := (okRow_len (List.all_eq_true.1 hrk r hr)).1
    omega
  have HL := hid (fun (W : World) => left_c W P T hP hT none 0 0 [] rfl (by decide) (fun j hj => by simp at hj) (fun c hc => by simp at hc))
  have HNX := hid (fun (W : World) (hb : Below w.heap.size w W) (L : List Cel) (a3 : Option Addr) (n3 c3 : Nat) (h3 : (fitting P T L).length = n3) (H3 : RowsAt W a3 (fitting P T L)) =>
    next_c W a3 n3 c3 (fitting P T L) h3 (by rw [← h3]; exact fitting_le hP hT L) H3 a1 n1 cap1 ls hn1 (by omega) hm1 (H1.below hb) (hfl L))
  have HBT := hid (fun (W : World) (hb : Below w.heap.size w W) (k : Nat) (hk : k < n1) (b : Option Addr) (bn bc : Nat) (hbn : (ls[k]?.getD []).length = bn) (hi : IntsAt W b (ls[k]?.getD [])) (thr : Int) (t1 : -99 ≤ thr) (t2 : thr ≤ 100) =>
    bit_c W b a2 bn bc n2 cap2 (ls[k]?.getD []) x hbn hn2 (by have := hrl k hk; omega) (by have := hrl k hk; omega) hi (H2.below hb) thr t1 t2)
  have HRA := hid (fun (W : World) (hb : Below w.heap.size w W) (k : Nat) (hk : k < n1) => rows_elem (H1.below hb) (k := k) (by rw [hn1]; exact hk))
  have HFZ := hid (fun L => fitting_le hP hT L)
  have HLN := hid (show ls.length = n1 from hn1)
  obtain ⟨i0, hi, hz0, hz1, hz2⟩ := info_parts info_cell
  have HLE := hid (fun (L : List Cel) (y : List Int) (h : y ∈ fitting P T L) => show y.length = P from fitting_len h)
  clear e0 e1 hn1 H1 hn2 H2 hpe hin hok hfd hrk hrl hfl hx2 t0 m0 p1 p8 t3 hm2
  unfold maxLen at hm1
  go_enter Try.func49, Try.ntmps49
  go_wp2_with fail
  rw [← hwf]
  clear hwf
  refine (HR.out _ hb0).mono ?_
  rintro e w1 ⟨rfl, hb1⟩
  obtain ⟨f0, f1⟩ := HF.out _ hb1
  go_wp2_with (first
    | (go_at_call 76; refine (HP.out _ (HB.out _ hb1)).mono ?_; rintro e w2 ⟨rfl, hb2⟩; have hbw2 := chain hb1 hb2; obtain ⟨g0, g1⟩ := HF.out _ hbw2)
    | (go_at_call 59; refine (within_c _ _ _ _).mono ?_; rintro e w3 ⟨rfl, rfl⟩)
    | (go_at_call 65; refine (HL.out _).mono ?_; rintro e w4 ⟨v, base, rfl, hbase, hR, hb4⟩; refine Stop.of ?_))
  refine Stop.go ?_
  have hbw4 := chain hbw2 hb4
  have hRn := hR.now
  obtain ⟨a4, c4, hv4, _, _, _⟩ := hR.reads
  obtain ⟨B0, hB0⟩ : ∃ B, B = w4.heap.size := ⟨_, rfl⟩
  rw [← hB0] at hRn
  have HB0 := hid hB0
  have HRn := hid hRn
  have HBase := hid (show wf.heap.size ≤ base from Nat.le_trans (hbw2.size) hbase)
  clear hR hRn hB0 hv4 f0 f1 g0 g1
  go_wp2
  go_loopw [12, 13] (fun out pos wr => ∃ L : List Cel, L.length ≤ M ∧ Below wf.heap.size wf wr ∧ Hid (B0 ≤ wr.heap.size ∧ CelsO 41 (fun k => B0 ≤ k) wr B0 out L ∧ RowsO 3 25 wr base (fun k => k < B0) pos (fitting P T L) ∧ playN P T ls x (M - L.length) L = playN P T ls x M [])) (fun out _ _ => M - lenV out)
  case atStart => exact ⟨[], Nat.zero_le _, hbw4, hid ⟨by rw [HB0.out]; exact Nat.le_refl _, CelsO.nil _ _ _ _, HRn.out, rfl⟩⟩
  case round =>
    obtain ⟨L, hLM, hb, HH⟩ := hrel
    obtain ⟨oa, oc, rfl, hom, hoc⟩ := HH.out.2.1.reads
    obtain ⟨pa, pc, rfl, hpm, hpr, _⟩ := HH.out.2.2.1.reads
    obtain ⟨F, hF⟩ : ∃ F, F = fitting P T L := ⟨_, rfl⟩
    have HOC := hid hoc
    have HNX1 := HNX.out wr (HB.out _ hb) L pa _ pc rfl hpr
    rw [← hF] at HNX1 hpm ⊢
    have HFF := hid hF
    obtain ⟨fn, hfn⟩ : ∃ n, n = F.length := ⟨_, rfl⟩
    obtain ⟨ln, hln⟩ : ∃ n, n = L.length := ⟨_, rfl⟩
    rw [← hfn] at HNX1 hpm ⊢
    rw [← hln] at hLM hom ⊢
    obtain ⟨R, hR⟩ : ∃ R, R = bestR F ls (n1 - 1) := ⟨_, rfl⟩
    have hRn : R < n1 := by have := bestR_le F ls (n1 - 1); omega
    rw [← hR] at HNX1
    have hth := rT_in F ls R
    have hll := rG_rL F ls R
    obtain ⟨TH, hTH⟩ : ∃ R', R' = rT F ls R := ⟨_, rfl⟩
    obtain ⟨LL, hLL⟩ : ∃ R', R' = rL F ls R := ⟨_, rfl⟩
    rw [← hTH, ← hLL] at HNX1
    rw [← hTH] at hth
    rw [← hLL, ← hfn] at hll
    have hlb : LL ≤ fn := by omega
    have hstep : playStep P T ls x L = if fn ≤ 1 ∨ LL = 0 then none else some (bitC (ls[R]?.getD []) x TH) := by
      unfold playStep
      rw [← hF, HLN.out, ← hR, ← hTH, ← hLL, ← hfn]
    have HSTEP := hid hstep
    have HNX2 := hid HNX1
    have HLen := hid hln
    have HFN := hid hfn
    obtain ⟨th1, th2⟩ := hth
    unfold maxLen at hpm hom
    clear hoc hpr hstep HNX1 hll hF hfn hln hR hTH hLL
    have fin : ∀ W, Below wr.heap.size wr W → playN P T ls x (M - ln) L = L → (playN P T ls x M []).length = ln ∧ ln ≤ maxLen ∧ CellsAt W oa (playN P T ls x M []) ∧ Below w.heap.size w W := by
      intro W hW hL
      have h4 := HH.out.2.2.2
      rw [← HLen.out] at h4
      rw [← h4, hL]
      exact ⟨HLen.out.symm, by unfold maxLen; omega, HOC.out.below hW, HB.out _ (chain hb hW)⟩
    have FIN := hid fin
    clear fin
    by_cases hf1 : fn ≤ 1
    · have hd := hid (playN_none (k := M - ln) (HSTEP.out.trans (if_pos (.inl hf1))))
      go_wp2
      go_ret2
      have hq := FIN.out _ (Below.refl _ _) hd.out
      first
        | exact ⟨_, _, _, rfl, hq⟩
        | exact ⟨_, _, ⟨_, rfl⟩, hq⟩
    by_cases hlm : ln < M
    rotate_left
    · have hd := hid (show playN P T ls x (M - ln) L = L by rw [show M - ln = 0 by omega]; rfl)
      go_wp2
      go_ret2
      have hq := FIN.out _ (Below.refl _ _) hd.out
      first
        | exact ⟨_, _, _, rfl, hq⟩
        | exact ⟨_, _, ⟨_, rfl⟩, hq⟩
    by_cases hl0 : LL = 0
    · have hd := hid (playN_none (k := M - ln) (HSTEP.out.trans (if_pos (.inr hl0))))
      subst hl0
      go_wp2_with (go_at_call 88; refine HNX2.out.mono ?_; rintro e w5 ⟨rfl, hb5⟩)
      go_ret2
      have hq := FIN.out _ hb5 hd.out
      first
        | exact ⟨_, _, _, rfl, hq⟩
        | exact ⟨_, _, ⟨_, rfl⟩, hq⟩
    have hl0' : ((LL : Int) == 0) = false := by simp [hl0]
    have HL0 := hid hl0
    clear hl0
    go_wp2_with (go_at_call 88; refine HNX2.out.mono ?_; rintro e w5 ⟨rfl, hb5⟩; refine Stop.of ?_)
    refine Stop.go ?_
    have hbw5 := chain hb hb5
    obtain ⟨rb, roff, ra, rn, rc, rfl, hrs, hrcell, hrn, hrm, hri⟩ := HRA.out _ (HB.out _ hbw5) R hRn
    have HBT2 := hid (HBT.out _ (HB.out _ hbw5) R hRn ra rn rc hrn hri TH th1 th2)
    have HC := hid (bitC_row (ls[R]?.getD []) x TH)
    obtain ⟨C, hC⟩ : ∃ C, C = bitC (ls[R]?.getD []) x TH := ⟨_, rfl⟩
    rw [← hC] at HBT2 HSTEP HC
    clear hC hrn hri
    go_wp2_with (go_at_call 74; refine HBT2.out.mono ?_; rintro e w6 ⟨v6, rfl, hcf, hb6⟩; refine Stop.of ?_)
    refine Stop.go ?_
    obtain ⟨qa, qn, qc, rfl, hq1, hq2, hq3⟩ := hcf
    have hb6w := chain hb5 hb6
    obtain ⟨w8, hw8⟩ : ∃ w8, w8 = (w6.alloc (.cells #[.slice qa qn qc, .int .i64 C.lo, .int .i64 C.hi] 41)).alloc (.cells #[.slice qa qn qc, .int .i64 C.lo, .int .i64 C.hi] 41) := ⟨_, rfl⟩
    have hz8 : w8.heap.size = w6.heap.size + 2 := by rw [hw8]; simp
    have hb68 : Below w6.heap.size w6 w8 := by rw [hw8]; exact ((Below.refl _ _).alloc (Nat.le_refl _) _).alloc (by simp) _
    have hbox : w8.heap[w6.heap.size]? = some (.cells #[.slice qa qn qc, .int .i64 C.lo, .int .i64 C.hi] 41 (0, 0)) := by
      rw [hw8]
      exact (Below.heap_alloc _ _ _ (by simp)).trans (World.alloc_heap_new w6 _)
    have hnews : ∀ j u, [Value.slice qa qn qc, .int .i64 C.lo, .int .i64 C.hi][j]? = some u → w8.cell? ((⟨w6.heap.size + 1, 0, none⟩ : Addr).add j) = some u := by
      intro j u hu
      rw [hw8]
      have := news3 (w6.alloc (.cells #[.slice qa qn qc, .int .i64 C.lo, .int .i64 C.hi] 41)) (.slice qa qn qc) (.int .i64 C.lo) (.int .i64 C.hi) 41 ⟨w6.heap.size + 1, 0, none⟩ (by rw [World.size_alloc])
      exact this j u hu
    have hbr8 := chain hb6w hb68
    obtain ⟨xs, ho8, hv8, hs8⟩ := HH.out.2.1.below hbr8
    have M1 := hid (show ln + 1 ≤ maxLen by unfold maxLen; omega)
    have M2 := hid (show (ln + 1) * 40 ≤ 140737488355328 by omega)
    have M3 := hid (show B0 ≤ w8.heap.size from Nat.le_trans HH.out.1 hbr8.size)
    have M4 := hid (CelVals.one' (CelVals.one (c := C) (W := w8) (cap := qc) hq1 hq2 (hq3.at.below hb68)))
    rw [← HLen.out] at ho8
    have HO8 := hid ho8
    have HV8 := hid hv8
    have HS8 := hid hs8
    have HNW := hid hnews
    have HBX := hid hbox
    have HZ8 := hid hz8
    have HW8 := hid hw8
    have HQ := hid (And.intro hq1 hq3)
    have HB8 := hid (And.intro hbr8 hb68)
    clear ho8 hv8 hs8 hnews hbox hz8 hq1 hq3 hbr8 hb68 hw8
    go_wp2_with (at_builtin; refine Stop.of ?_)
    rw [← HW8.out]
    refine Stop.go ?_
    refine wpList_append_lies _ rfl (.tmp 66) (.tmp 68) 24 rfl B0 41 i0 (.agg #[.slice none 0 0, .int .i64 0, .int .i64 0]) 3 40 Try.underlying24 hi hz0 hz1 hz2 rfl (by decide) (.slice oa ln oc) ln xs rfl HO8.out ⟨w6.heap.size + 1, 0, none⟩ 1 1 [.slice qa qn qc, .int .i64 C.lo, .int .i64 C.hi] rfl rfl HNW.out M4.out (by decide) M1.out M2.out M3.out _ rfl ?_
    intro g gcap w9 own9 g9 hlies hg9
    have hZ6 : wr.heap.size ≤ w6.heap.size := hb6w.size
    have hZ5 : wr.heap.size ≤ w5.heap.size := hb5.size
    have hown : ∀ k, Value.ownBlock (.slice oa ln oc) = some k → B0 ≤ k ∧ k < wr.heap.size := by
      intro k hk
      obtain ⟨xs', ho', _⟩ := HH.out.2.1
      rw [← HLen.out] at ho'
      exact ho'.lt k hk
    have hsep : SepA (fun k => B0 ≤ k) (Value.ownBlock (.slice oa ln oc)) C.row qa := by
      by_cases hnil : C.row = []
      · exact .inl hnil
      · right
        intro ad e
        obtain ⟨b, off, e2, h5, h6, _⟩ := HQ.out.2 0 (List.length_pos_iff.2 hnil)
        rw [e] at e2
        cases e2
        refine ⟨fun h => ?_, ?_⟩
        · have := (hown b h.symm).2; omega
        · have := HH.out.1; show B0 ≤ b; omega
    have hri9 : IntsAt w9 qa C.row := (HQ.out.2.at.below HB8.out.2).grownBy hsep g9
    have hbox9 : w9.heap[w6.heap.size]? = some (.cells #[.slice qa qn qc, .int .i64 C.lo, .int .i64 C.hi] 41 (0, 0)) := by
      refine (g9.block _ (by have := HZ8.out; omega) ?_).trans HBX.out
      intro h
      have := (hown _ h.symm).2
      omega
    have hcels9 : CelsO 41 (fun k => B0 ≤ k) w9 B0 (.slice (some ⟨g, 0, none⟩) (ln + 1) gcap) (L ++ [C]) := by
      have e := HLen.out
      subst e
      refine CelsO.snoc HO8.out HV8.out HS8.out HQ.out.1 hq2 (HQ.out.2.at.below HB8.out.2) hsep g9 own9 ?_
      rcases hlies with h | h
      · exact .inl (by rw [h]; rfl)
      · exact .inr ⟨g, rfl, by omega⟩
    have hbw8 : Below wf.heap.size wf w8 := chain hb HB8.out.1
    have hB0f : wf.heap.size ≤ B0 := by rw [HB0.out]; exact hbw4.size
    have hbw9 : Below wf.heap.size wf w9 := hbw8.grown g9 hbw8.size (fun k hk => Nat.le_trans hB0f (hown k hk).1)
    have hrows9 : RowsO 3 25 w9 base (fun k => k < B0) (.slice pa (fitting P T L).length pc) (fitting P T L) :=
      HH.out.2.2.1.keep ((Keep.of_below HB8.out.1).trans ((Keep.grown g9).mono fun k hk h => by have := (hown k h.symm).1; omega))
    obtain ⟨vs, hov, hog, hoe⟩ := hrows9
    rw [← HFF.out, ← HFN.out] at hov
    rcases hov.2 with ⟨_, h0⟩ | ⟨b0, cap0, cur, e, hbg, hgg, hnc, hcm, hsz, htk⟩
    · omega
    simp only [Value.slice.injEq, true_and] at e
    obtain ⟨rfl, rfl⟩ := e
    have hb0B : b0 < B0 := hog b0 rfl
    rw [← HFF.out] at hoe
    have HDEL := hid (deleteK w9 base b0 fn pc cur vs F HFN.out.symm hgg hnc hcm (by omega) (by simpa using htk) hbg (fun k => k < B0) hb0B hoe 92 #[.pointer (some ⟨w6.heap.size, 0, none⟩)]
      (fun y => C.row.length ≤ y.length) (fun y => !fitC y C) (enters_of Try.func92 (by kernel_rfl) rfl)
      (play1 w9 w6.heap.size b0 C qa qn qc (by have := HH.out.1; omega) (by have := HZ8.out; have := g9.size; omega) hbox9 HQ.out.1 hq2 hri9 (by
        rcases hsep with h | h
        · exact .inl h
        · exact .inr fun ad e => by have h2 := (h ad e).2; have h3 : B0 ≤ ad.block := h2; omega))
      (fun y hy => by rw [HC.out, HRL.out R hRn, HLE.out L y (by rw [← HFF.out]; exact hy)]; exact Nat.le_refl _))
    have HCL := hid hcels9
    have HNEW := hid (show fitting P T (L ++ [C]) = F.filter (fun y => !(!fitC y C)) by rw [filter_not, fitting_more, HFF.out])
    have HPN := hid (show playN P T ls x (M - ln) L = playN P T ls x (M - ln - 1) (L ++ [C]) from playN_some (by omega) (HSTEP.out.trans (if_neg (by have := HL0.out; omega))))
    have HBB := hid (show wf.heap.size ≤ b0 from Nat.le_trans HBase.out hbg)
    have HZ9 := hid (show B0 ≤ w9.heap.size by have := HH.out.1; have := HZ8.out; have := g9.size; omega)
    have HX9 := hid hbw9
    clear own9 g9 hlies hg9 hown hsep hri9 hbox9 hcels9 hbw8 hbw9 hov hog hoe hgg htk hsz
    go_wp2_with (go_at_call 91; refine HDEL.out.mono ?_; rintro e w10 ⟨v10, rfl, hro, hkp⟩)
    have hbw10 := hkp.below HX9.out HX9.out.size (fun k hk e => by have := HBB.out; omega)
    refine ⟨⟨L ++ [C], by rw [List.length_append, ← HLen.out]; exact hlm, hbw10, hid ⟨Nat.le_trans HZ9.out hkp.size, HCL.out.keep hkp (fun k hk => by omega) (fun k hk => by omega), by rw [HNEW.out]; exact hro, ?_⟩⟩, ?_⟩
    · rw [List.length_append, ← HLen.out]
      have h4 := HH.out.2.2.2
      rw [← HLen.out, HPN.out] at h4
      rw [← h4]; rfl
    · show M - (ln + 1) < M - ln
      omega
end Go.Proofs.Ytdcflpfaaeijoaa

/- The statement BitHalves: the walk of the law. -/
import Derived.Test.YtdcflpfaaeijoaaBitAE
namespace Go.Proofs.Ytdcflpfaaeijoaa
open Go.RowKit Go.Maps
set_option linter.unusedVariables false

theorem halves_law {p t thr : Int} {l : List Cel} {row : List Int} (h : halveE p t l row = 0) (h1 : -99 ≤ thr) (h2 : thr ≤ 100) :
    partsE p t l row (halveV p t l row) = 0 ∧ partsE p t l row thr = 0 ∧
    (if partsLo p t l row (halveV p t l row) < partsHi p t l row (halveV p t l row) then partsHi p t l row (halveV p t l row) else partsLo p t l row (halveV p t l row)) ≤
      (if partsLo p t l row thr < partsHi p t l row thr then partsHi p t l row thr else partsLo p t l row thr) := by
  have hok : (okCells p t l && okRow p row) = true := by
    unfold halveE at h
    split at h
    · assumption
    · omega
  have hv : halveV p t l row = bestT ((fitting p.toNat t.toNat l).map (dotW row)) 199 := by rw [halveV, if_pos h]
  have hin := bestT_in ((fitting p.toNat t.toNat l).map (dotW row)) 199
  obtain ⟨j, hj⟩ : ∃ j : Nat, thr = -99 + (j : Int) := ⟨(thr + 99).toNat, by omega⟩
  have hle := bestT_least ((fitting p.toNat t.toNat l).map (dotW row)) 199 j (by omega)
  rw [← hj] at hle
  rw [hv]
  generalize bestT ((fitting p.toNat t.toNat l).map (dotW row)) 199 = b at hin hle
  have e1 : partsE p t l row b = 0 := by rw [partsE, if_pos hok, if_pos]; simp [inB]; omega
  have e2 : partsE p t l row thr = 0 := by rw [partsE, if_pos hok, if_pos]; simp [inB]; omega
  refine ⟨e1, e2, ?_⟩
  simp only [partsLo, partsHi, e1, e2, if_true]
  unfold grT at hle
  generalize ((fitting p.toNat t.toNat l).map (dotW row)) = ss at hle ⊢
  split at hle <;> split at hle <;> split <;> split <;> omega

set_option maxRecDepth 100000 in
set_option maxHeartbeats 4000000 in
theorem bitHalves_c (w : World) (p t : Int) (a : Option Addr) (n cap : Nat) (l : List Cel) (hn : l.length = n) (hm : n ≤ maxLen) (H : CellsAt w a l)
    (a2 : Option Addr) (n2 cap2 : Nat) (row : List Int) (hn2 : row.length = n2) (hm2 : n2 ≤ maxLen) (H2 : IntsAt w a2 row)
    (a3 : Option Addr) (n3 cap3 : Nat) (ls : List (List Int)) (hn3 : ls.length = n3) (hm3 : n3 ≤ maxLen) (H3 : RowsAt w a3 ls) (thr : Int) :
    Calls Try.prog 8 #[.agg #[.int .i64 p, .int .i64 t], .slice a n cap, .slice a2 n2 cap2, .slice a3 n3 cap3, .int .i64 thr] w fun e w' => e = .returned (.bool true) ∧ Below w.heap.size w w' := by
  obtain ⟨wf, hwf⟩ : ∃ wf, wf = w.alloc (.cells #[.int .i64 p, .int .i64 t] 23) := ⟨_, rfl⟩
  have hb0 : Below w.heap.size w wf := by rw [hwf]; exact (Below.refl _ _).alloc (Nat.le_refl _) _
  have HF := hid (fun (W : World) (hb : Below wf.heap.size wf W) => show W.cell? ⟨w.heap.size, 0, none⟩ = some (.int .i64 p) ∧ W.cell? ⟨w.heap.size, 1, none⟩ = some (.int .i64 t) from by
    have hz : wf.heap.size = w.heap.size + 1 := by rw [hwf]; simp
    refine ⟨(hb.cell (p := ⟨w.heap.size, 0, none⟩) (show w.heap.size < wf.heap.size by omega)).trans ?_, (hb.cell (p := ⟨w.heap.size, 1, none⟩) (show w.heap.size < wf.heap.size by omega)).trans ?_⟩ <;> (rw [hwf, World.cell?_alloc_at _ _ _ _ rfl]; rfl))
  have HB := hid (fun (W : World) (hb : Below wf.heap.size wf W) => chain hb0 hb)
  have HFEW := hid (fun W : World => few_c W p t 300)
  have HFIT := hid (fun (W : World) (hb : Below w.heap.size w W) => fit_c W a n cap l hn hm (H.below hb))
  have HAW := hid awake_c
  have HX1 := hid (fun (W : World) (hb : Below w.heap.size w W) => halveP_c W p t a n cap l hn hm (H.below hb) a2 n2 cap2 row hn2 hm2 (H2.below hb))
  have HX2 := hid (fun (W : World) (hb : Below w.heap.size w W) => refHalveP_c W p t a n cap l hn hm (H.below hb) a2 n2 cap2 row hn2 hm2 (H2.below hb))
  have HN1 := hid (fun (W : World) (hb : Below w.heap.size w W) => nextP_c W p t a n cap l hn hm (H.below hb) a3 n3 cap3 ls hn3 hm3 (H3.below hb))
  have HN2 := hid (fun (W : World) (hb : Below w.heap.size w W) => refNextP_c W p t a n cap l hn hm (H.below hb) a3 n3 cap3 ls hn3 hm3 (H3.below hb))
  have HP1 := hid (fun (W : World) (hb : Below w.heap.size w W) (th : Int) => partsP_c W p t a n cap l hn hm (H.below hb) a2 n2 cap2 row hn2 hm2 (H2.below hb) th)
  have HLAW := hid (fun (h : halveE p t l row = 0) (h1 : -99 ≤ thr) (h2 : thr ≤ 100) => halves_law h h1 h2)
  have HRd := hid H3
  have HL3 := hid hn3
  unfold maxLen at hm hm2 hm3
  clear hn H hn2 H2 hn3 H3
  have hcase : (fewB p t 300 = false ∨ fewB p t 300 = true ∧ (fitB l = false ∨ fitB l = true ∧ (¬ n2 ≤ 20 ∨ n2 ≤ 20 ∧ ((¬ n3 ≤ 4 ∧ n3 ≤ 20) ∨ (¬ n3 ≤ 4 ∧ ¬ n3 ≤ 20 ∧ ¬ n3 ≤ 25))))) ∨ (fewB p t 300 = true ∧ fitB l = true ∧ n2 ≤ 20 ∧ (n3 ≤ 4 ∨ ¬ n3 ≤ 4 ∧ ¬ n3 ≤ 20 ∧ n3 ≤ 25)) := by
    cases fewB p t 300 <;> cases fitB l <;> simp <;> omega
  rcases hcase with h | ⟨h1, h2, h3, h4⟩
  · rcases h with h1 | ⟨h1, h2 | ⟨h2, h3 | ⟨h3, ⟨h4, h5⟩ | ⟨h4, h5, h6⟩⟩⟩⟩
    all_goals
      rw [h1] at HFEW
      try rw [h2] at HFIT
      go_enter Try.func8, Try.ntmps8
      go_wp2_with fail
      rw [← hwf]
      clear hwf
      refine (HFEW.out _).mono ?_
      rintro e w1 ⟨rfl, hb1⟩
      go_wp2_with (first | (go_at_call 11; refine (HFIT.out _ (HB.out _ hb1)).mono ?_; rintro e w2 ⟨rfl, hb2⟩) | (go_at_call 12; refine (HAW.out _).mono ?_; rintro e w3 ⟨rfl, hb3⟩))
      go_ret
      first
        | exact ⟨rfl, chain (HB.out _ (chain hb1 hb2)) hb3⟩
        | exact ⟨rfl, chain (HB.out _ hb1) hb3⟩
  · rw [h1] at HFEW
    rw [h2] at HFIT
    have HOK : ∀ W : World, Below wf.heap.size wf W → True := fun _ _ => trivial
    rcases h4 with h4 | ⟨h4, h5, h6⟩
    all_goals
      go_enter Try.func8, Try.ntmps8
      go_wp2_with fail
      rw [← hwf]
      clear hwf
      refine (HFEW.out _).mono ?_
      rintro e w1 ⟨rfl, hb1⟩
      go_wp2_with (go_at_call 11; refine (HFIT.out _ (HB.out _ hb1)).mono ?_; rintro e w2 ⟨rfl, hb2⟩)
      go_loopw [60] (fun i wr => ∃ k : Nat, k ≤ n3 ∧ i = .int .i64 k ∧ Below wf.heap.size wf wr) (fun i _ => n3 - (intOf i).toNat)
      case atStart => exact ⟨0, Nat.zero_le _, rfl, chain hb1 hb2⟩
      case round =>
        obtain ⟨k, hk, rfl, hb⟩ := hrel
        by_cases hlt : k < n3
        · obtain ⟨b, off, ra, xn, xc, rfl, hbs, hcx0, hxn, hxm, hxi⟩ := rows_elem HRd.out (k := k) (by rw [HL3.out]; exact hlt)
          have hcx : wr.cell? ⟨b, off + k, none⟩ = some (.slice ra xn xc) := ((HB.out _ hb).cell (p := ⟨b, off + k, none⟩) hbs).trans hcx0
          clear hcx0 hxn hxi
          unfold maxLen at hxm
          by_cases hx : xn ≤ 20
          · go_wp2
            exact ⟨⟨k + 1, by omega, by go_num, hb⟩, by simp [intOf]; omega⟩
          · go_wp2_with (go_at_call 12; refine (HAW.out _).mono ?_; rintro e w3 ⟨rfl, hb3⟩)
            go_ret
            exact ⟨rfl, chain (HB.out _ hb) hb3⟩
        · obtain ⟨f10, f11⟩ := HF.out _ hb
          go_wp2_with (first
            | (go_at_call 45; refine (HX1.out _ (HB.out _ hb)).mono ?_; rintro e w3 ⟨rfl, hb3⟩; have hbw3 := chain hb hb3; obtain ⟨f30, f31⟩ := HF.out _ hbw3)
            | (go_at_call 46; refine (HX2.out _ (HB.out _ hbw3)).mono ?_; rintro e w4 ⟨rfl, hb4⟩; have hbw4 := chain hbw3 hb4; obtain ⟨f40, f41⟩ := HF.out _ hbw4)
            | (go_at_call 47; refine (HN1.out _ (HB.out _ hbw4)).mono ?_; rintro e w5 ⟨rfl, hb5⟩; have hbw5 := chain hbw4 hb5; obtain ⟨f50, f51⟩ := HF.out _ hbw5)
            | (go_at_call 48; refine (HN2.out _ (HB.out _ hbw5)).mono ?_; rintro e w6 ⟨rfl, hb6⟩; refine Stop.of ?_))
          refine Stop.go ?_
          have hbw6 := chain hbw5 hb6
          obtain ⟨f60, f61⟩ := HF.out _ hbw6
          have hc6 : (halveE p t l row != 0) = true ∨ halveE p t l row = 0 ∧ (thr < -99 ∨ -99 ≤ thr ∧ (100 < thr ∨ thr ≤ 100)) := by
            by_cases hE : halveE p t l row = 0
            · right; exact ⟨hE, by omega⟩
            · left; simp [hE]
          have hc7 : (halveE p t l row != 0) = true ∨ halveE p t l row = 0 ∧ thr < -99 ∨ halveE p t l row = 0 ∧ -99 ≤ thr ∧ 100 < thr ∨
              halveE p t l row = 0 ∧ -99 ≤ thr ∧ thr ≤ 100 ∧ partsE p t l row (halveV p t l row) = 0 ∧ partsE p t l row thr = 0 ∧
    (if partsLo p t l row (halveV p t l row) < partsHi p t l row (halveV p t l row) then partsHi p t l row (halveV p t l row) else partsLo p t l row (halveV p t l row)) ≤
      (if partsLo p t l row thr < partsHi p t l row thr then partsHi p t l row thr else partsLo p t l row thr) := by
            rcases hc6 with h | ⟨h, h7 | ⟨h7, h8 | h8⟩⟩
            · exact .inl h
            · exact .inr (.inl ⟨h, h7⟩)
            · exact .inr (.inr (.inl ⟨h, h7, h8⟩))
            · exact .inr (.inr (.inr ⟨h, h7, h8, HLAW.out h h7 h8⟩))
          have HPA := hid (HP1.out)
          obtain ⟨HV, hHV⟩ : ∃ E, E = halveV p t l row := ⟨_, rfl⟩
          obtain ⟨HE, hHE⟩ : ∃ E, E = halveE p t l row := ⟨_, rfl⟩
          have HQ1 := hid (fun (W : World) (hb : Below w.heap.size w W) => HPA.out W hb HV)
          have HQ2 := hid (fun (W : World) (hb : Below w.heap.size w W) => HPA.out W hb thr)
          rw [← hHV, ← hHE] at hc7
          clear HPA HP1 HLAW hc6
          rw [← hHV, ← hHE]
          clear hHV hHE
          obtain ⟨E1, hE1⟩ : ∃ E, E = partsE p t l row HV := ⟨_, rfl⟩
          obtain ⟨E2, hE2⟩ : ∃ E, E = partsE p t l row thr := ⟨_, rfl⟩
          obtain ⟨L1, hL1⟩ : ∃ E, E = partsLo p t l row HV := ⟨_, rfl⟩
          obtain ⟨L2, hL2⟩ : ∃ E, E = partsLo p t l row thr := ⟨_, rfl⟩
          obtain ⟨G1, hG1⟩ : ∃ E, E = partsHi p t l row HV := ⟨_, rfl⟩
          obtain ⟨G2, hG2⟩ : ∃ E, E = partsHi p t l row thr := ⟨_, rfl⟩
          rw [← hE1, ← hE2, ← hL1, ← hL2, ← hG1, ← hG2] at hc7
          rw [← hE1, ← hL1, ← hG1] at HQ1
          rw [← hE2, ← hL2, ← hG2] at HQ2
          clear hE1 hE2 hL1 hL2 hG1 hG2
          rcases hc7 with h7 | ⟨h7, h8⟩ | ⟨h7, h8, h9⟩ | ⟨h7, h8, h9, h10, h11, h12⟩
          · go_wp2_with (go_at_call 12; refine (HAW.out _).mono ?_; rintro e w7 ⟨rfl, hb7⟩)
            go_ret
            exact ⟨rfl, chain (HB.out _ hbw6) hb7⟩
          · subst h7
            go_wp2_with (go_at_call 12; refine (HAW.out _).mono ?_; rintro e w7 ⟨rfl, hb7⟩)
            go_ret
            exact ⟨rfl, chain (HB.out _ hbw6) hb7⟩
          · subst h7
            go_wp2_with (go_at_call 12; refine (HAW.out _).mono ?_; rintro e w7 ⟨rfl, hb7⟩)
            go_ret
            exact ⟨rfl, chain (HB.out _ hbw6) hb7⟩
          · subst h7 h10 h11
            go_wp2_with (go_at_call 25; refine (HQ1.out _ (HB.out _ hbw6)).mono ?_; rintro e w7 ⟨rfl, hb7⟩; refine Stop.of ?_)
            refine Stop.go ?_
            have hbw7 := chain hbw6 hb7
            obtain ⟨f70, f71⟩ := HF.out _ hbw7
            go_wp2_with (go_at_call 25; refine (HQ2.out _ (HB.out _ hbw7)).mono ?_; rintro e w8 ⟨rfl, hb8⟩; refine Stop.of ?_)
            refine Stop.go ?_
            have hbw8 := chain hbw7 hb8
            by_cases c1 : L1 < G1
            all_goals
              first | rw [if_pos c1] at h12 | rw [if_neg c1] at h12
              by_cases c2 : L2 < G2
            all_goals
              first | rw [if_pos c2] at h12 | rw [if_neg c2] at h12
              go_wp2_with (go_at_call 12; refine (HAW.out _).mono ?_; rintro e w9 ⟨rfl, hb9⟩)
              go_ret
              exact ⟨rfl, chain (HB.out _ hbw8) hb9⟩
end Go.Proofs.Ytdcflpfaaeijoaa

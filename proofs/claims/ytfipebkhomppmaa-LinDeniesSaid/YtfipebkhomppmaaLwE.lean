/- Walks: Index, Contains of ints; Kernel (package part). -/
import Derived.Test.YtfipebkhomppmaaLwD
import Derived.Test.YtfipebkhomppmaaLinP
namespace Go.Proofs.Ytfipebkhomppmaa
open Go.RowKit
set_option linter.unusedVariables false

theorem indexV (w : World) (a : Option Addr) (n cap : Nat) (l : List Int) (hn : l.length = n) (hm : n ≤ maxLen) (H : IntsAt w a l) (x : Int) :
    Calls Try.prog 117 #[.slice a n cap, .int .i64 x] w fun e w' => e = .returned (.int .i64 (idxP (fun y => decide (y = x)) l 0)) ∧ w = w' := by
  have HN := hid hn
  have HH := hid H
  clear hn H
  unfold maxLen at hm
  go_enter Try.func117, Try.ntmps117
  go_wp2
  go_loop [8] (fun i => ∃ k : Nat, k ≤ n ∧ i = .int .i64 k ∧ Hid (∀ i y, i < k → l[i]? = some y → y ≠ x)) (fun i => n - (intOf i).toNat)
  case atStart => exact ⟨0, Nat.zero_le _, rfl, hid (fun i y h => by omega)⟩
  case round =>
    obtain ⟨k, hk, rfl, HNO⟩ := hrel
    by_cases hlt : k < n
    · have hkl : k < l.length := by rw [HN.out]; exact hlt
      obtain ⟨b, off, rfl, hbs, hc⟩ := HH.out k hkl
      have HK := hid (List.getElem?_eq_getElem hkl)
      have hg : l[k]?.getD 0 = l[k] := by rw [List.getElem?_eq_getElem hkl]; rfl
      rw [hg] at hc
      obtain ⟨y, hy⟩ : ∃ y, y = l[k] := ⟨_, rfl⟩
      rw [← hy] at hc HK
      clear hg hy hkl
      by_cases e : y = x
      · have hb : (x == y) = true := by simp [e]
        have HE := hid e
        clear e
        go_wp2
        go_ret
        refine ⟨ret_int ?_, rfl⟩
        rw [idxP_at (fun y => decide (y = x)) l 0 k y HK.out (by simpa using HE.out) (fun i z hi hz => by simpa using HNO.out i z hi hz)]; simp
      · have hb : (x == y) = false := by simp; omega
        have HE := hid e
        clear e
        go_wp2
        go_round
        case rel =>
          refine ⟨k + 1, by omega, by go_num, hid fun i z hi hz => ?_⟩
          by_cases e : i = k
          · subst e; rw [HK.out] at hz; cases hz; exact HE.out
          · exact HNO.out i z (by omega) hz
        case measure => simp [intOf]; omega
    · go_wp2
      go_ret
      refine ⟨ret_int ?_, rfl⟩
      rw [idxP_neg]
      intro z hz
      obtain ⟨i, hi, e⟩ := List.getElem_of_mem hz
      simpa using HNO.out i z (by have := HN.out; omega) (by rw [List.getElem?_eq_getElem hi, e])

theorem containsV (w : World) (a : Option Addr) (n cap : Nat) (l : List Int) (hn : l.length = n) (hm : n ≤ maxLen) (H : IntsAt w a l) (x : Int) :
    Calls Try.prog 62 #[.slice a n cap, .int .i64 x] w fun e w' => e = .returned (.bool (l.contains x)) ∧ w = w' := by
  have HC := hid (indexV w a n cap l hn hm H x)
  have HG := hid (idxP_ge (fun y => decide (y = x)) l 0)
  clear hn H
  go_enter Try.func62, Try.ntmps62
  go_wp2_with (go_at_call 117; refine HC.out.mono ?_; rintro e w1 ⟨rfl, rfl⟩)
  go_ret
  refine ⟨ret_bool ?_, rfl⟩
  rw [Bool.eq_iff_iff, decide_eq_true_iff, HG.out]
  simp [List.any_eq_true]

/-- pivots as ints -/
def intsJ (J : List Nat) : List Int := J.map (fun j : Nat => (j : Int))
theorem intsJ_len (J : List Nat) : (intsJ J).length = J.length := by simp [intsJ]
theorem intsJ_contains (J : List Nat) (f : Nat) : (intsJ J).contains (f : Int) = J.contains f := by
  rw [Bool.eq_iff_iff]
  unfold intsJ
  simp only [List.contains_iff_mem, List.mem_map]
  constructor
  · rintro ⟨x, hx, e⟩
    have : x = f := by omega
    subst this; exact hx
  · intro h; exact ⟨f, h, rfl⟩
theorem intsJ_vals (J : List Nat) : J.map (fun j : Nat => Value.int .i64 j) = (intsJ J).map (Value.int .i64) := by unfold intsJ; rw [List.map_map]; rfl

theorem ints_of_own {W : World} {base : Nat} {v : Value} {n : Nat} {l : List Int} (h : W.ownsRow base 3 1 v n (l.map (Value.int .i64))) (hn : l.length = n) : ∃ a c, v = .slice a n c ∧ IntsAt W a l ∧ n ≤ maxLen := by
  subst hn
  rcases h.2 with ⟨rfl, h0⟩ | ⟨g, cap, cur, rfl, hbg, hgg, hnc, hcm, hsz, htk⟩
  · exact ⟨none, 0, by rw [h0], fun j hj => by omega, by rw [h0]; decide⟩
  · refine ⟨_, cap, rfl, ?_, by omega⟩
    have := (ElemI.own (S := fun _ => True) (base := base) ⟨h.1, .inr ⟨g, cap, cur, rfl, hbg, hgg, hnc, hcm, hsz, htk⟩⟩ (show l.length ≤ maxLen by omega) (fun _ _ => trivial)).ints
    exact this.2.2

theorem sp_made_set (w : World) (k f : Nat) (T : Int) : SpRow (w.alloc (.cells ((madeCells #[.int .i64 0] k).setIfInBounds f (.int .i64 T)) 3)) w.heap.size ((List.replicate k 0).set f T) := by
  have e : madeCells #[Value.int .i64 0] k = ((List.replicate k (0 : Int)).map (Value.int .i64)).toArray := by
    apply Array.toList_inj.1
    rw [toList_madeCells_one]; simp
  refine ⟨[], ?_⟩
  rw [World.alloc_heap_new, e, List.append_nil]
  congr 2
  apply Array.toList_inj.1
  simp [List.map_set]

/-- the header and the numbers of a row that nobody changes -/
theorem row_cells {W : World} {g0 : Nat} {R : List (List Int)} (h : RowsAt W (some ⟨g0, 0, none⟩) R) {t n : Nat} (ht : t < R.length) (hw : ∀ r ∈ R, r.length = n) (hn : 1 ≤ n) :
    ∃ rb ro rc, W.cell? ⟨g0, t, none⟩ = some (.slice (some ⟨rb, ro, none⟩) n rc) ∧ ∀ c, c < n → W.cell? ⟨rb, ro + c, none⟩ = some (.int .i64 (vec (R[t]?.getD []) c)) := by
  obtain ⟨b, off, ra, n', rc, e, hlt, h0, hn', hm, hi⟩ := h t ht
  cases e
  have hl := hw _ (List.getElem_mem ht)
  obtain ⟨rb, ro, rfl, _, _⟩ := hi 0 (by omega)
  refine ⟨rb, ro, rc, ?_, fun c hc => ?_⟩
  · rw [Nat.zero_add] at h0; rw [h0, ← hn', hl]
  · obtain ⟨rb', ro', e, _, hx⟩ := hi c (by omega)
    cases e
    rw [hx, List.getElem?_eq_getElem ht]; rfl

set_option maxRecDepth 100000 in
set_option maxHeartbeats 8000000 in
theorem pkernel_c (w : World) (a : Option Addr) (n cap : Nat) (M : List (List Int)) (hn : M.length = n) (hn1 : 1 ≤ n) {W : Nat} (hM : MaskOk M W) (H : RowsAt w a M) (a2 : Option Addr) (k cap2 : Nat) (S : List Int) (hk : S.length = k) (hk1 : 1 ≤ k) (hk9 : k ≤ 1000) (H2 : IntsAt w a2 S)
    (hS : ∀ j ∈ S, 0 ≤ j ∧ j < (W : Int)) :
    Calls Try.prog 61 #[.slice a n cap, .slice a2 k cap2] w fun e w' => ∃ v base, e = .returned v ∧ w.heap.size ≤ base ∧ OwnM w' base v (kerSP M S) ∧ Below w.heap.size w w' := by
  have hn6 : n ≤ 6 := by rw [← hn]; exact hM.le6
  have HCh := hid (chosen_c w a n cap M hn (by omega) H a2 k cap2 S hk (by omega) H2 (fun r hr j hj => by rw [hM.wid r hr]; exact hS j hj) 80 #[] (enters_of Try.func80 (by kernel_rfl) rfl) (fun _ => []) (none_more w n) (fun i _ => ⟨by simp, by simp; omega⟩))
  rw [chosenF_none] at HCh
  have hC : MaskOk (colsF M S) k := by rw [← hk]; exact hM.cols S
  have hCl : (colsF M S).length = n := by rw [colsF_len, hn]
  have hker : kerSP M S = kernP (RP (colsF M S) k) (JP (colsF M S) k) k := by unfold kerSP; rw [hk]
  rw [hker]
  obtain ⟨C, hCe⟩ : ∃ C, C = colsF M S := ⟨_, rfl⟩
  rw [← hCe] at HCh hC hCl ⊢
  have HK2 := hid hk
  clear hker hCe hn H hk H2 hS hM
  have HRd := hid (fun (W1 : World) (base : Nat) (v0 : Value) (hO : OwnT W1 base W1.heap.size v0 C) (hb : base ≤ W1.heap.size) => reduce_c W1 base v0 C k hO hb hC.wid (by omega) (by omega) (by omega) k (Nat.le_refl _) (fun t ht r hr => ⟨(hC.bnd ht r hr).1, fun x hx => by have := (hC.bnd ht r hr).2 x hx; omega⟩))
  have hJK : (JP C k).length ≤ n := by rw [← hCl]; exact (hC.inv k).K_le
  have hRl : (RP C k).length = n := by rw [pRed_len, hCl]
  have hRw : ∀ r ∈ RP C k, r.length = k := fun r hr => (hC.bnd (Nat.le_refl k) r hr).1
  have HRP := hid (fun (t c : Nat) => hC.rp_le t c)
  have HTI := hid (fun (f t : Nat) (ht : t ≤ (JP C k).length) => hC.times f ht)
  have HPX := hid (fun (i : Nat) (hi : i < (JP C k).length) => hC.pivx hi)
  have HRAW := hid (fun (f : Nat) (hf : f < k) (hfJ : f ∉ JP C k) (c : Nat) => hC.raw_le hf hfJ c)
  have HRAWT := hid (fun (f : Nat) (hf : f < k) (hfJ : f ∉ JP C k) (i : Nat) (hi : i < (JP C k).length) => hC.rp_le i f)
  obtain ⟨R, hR⟩ : ∃ R, R = RP C k := ⟨_, rfl⟩
  obtain ⟨J, hJ⟩ : ∃ R, R = JP C k := ⟨_, rfl⟩
  have e1 : (pRed C k).1 = R := hR.symm
  have e2 : (pRed C k).2 = J := hJ.symm
  rw [e1, e2] at HRd
  rw [← hR] at hRl hRw HRP HTI HPX HRAW ⊢
  rw [← hJ] at hJK HTI HPX HRAW ⊢
  obtain ⟨K, hK⟩ : ∃ K, K = J.length := ⟨_, rfl⟩
  rw [← hK] at HRd hJK HTI
  have HKJ := hid hK
  have HRL := hid hRl
  have HRW := hid hRw
  clear e1 e2 hR hJ hK hRl hRw HRAWT hC hCl
  go_enter Try.func61, Try.ntmps61
  go_wp2_with (go_at_call 79; refine HCh.out.mono ?_; rintro e w1 ⟨v0, rfl, hO1, hb1⟩; refine Stop.of ?_)
  refine Stop.go ?_
  have HRd1 := hid (HRd.out w1 w.heap.size v0 (OwnT.of hO1) hb1.size)
  clear hO1 HRd HCh
  go_wp2_with (go_at_call 78; refine HRd1.out.mono ?_; rintro e w2 ⟨vJ, rfl, hJo, hT2, hb2⟩; refine Stop.of ?_)
  refine Stop.go ?_
  rw [intsJ_vals] at hJo
  obtain ⟨ja, jc, rfl, hJI, hJm⟩ := ints_of_own hJo (by rw [intsJ_len, HKJ.out])
  have hv0 : ∃ g0 c0, v0 = .slice (some ⟨g0, 0, none⟩) n c0 := by
    obtain ⟨g0, c0, _, _, e, _⟩ := hT2.at 0 (by rw [HRL.out]; omega)
    exact ⟨g0, c0, by rw [e, HRL.out]⟩
  obtain ⟨g0, c0, rfl⟩ := hv0
  have hRA := hT2.rowsAt HRL.out (fun r hr => by rw [HRW.out r hr]; unfold maxLen; omega)
  have HJI := hid hJI
  have HRA := hid hRA
  have HBW := hid (show Below w.heap.size w w2 from hb1.trans hb2)
  have hsz : w.heap.size ≤ w2.heap.size := by have := hb1.size; have := hb2.size; omega
  clear hJI hRA hJo hT2 hb1 hb2 HRd1
  go_wp2
  go_loopw [7, 25] (fun v i wr => ∃ f : Nat, f ≤ k ∧ i = .int .i64 f ∧ OwnM wr w2.heap.size v (kernTo R J k f) ∧ Below w2.heap.size w2 wr) (fun _ i _ => k - (intOf i).toNat)
  case atStart => exact ⟨0, Nat.zero_le _, rfl, OwnM.nil _ _, Below.refl _ _⟩
  case round =>
    obtain ⟨f, hf, rfl, ho, hbk⟩ := hrel
    obtain ⟨wo, hwo⟩ : ∃ wo, wo = wr := ⟨_, rfl⟩
    subst hwo
    by_cases hlt : f < k
    · have HO := hid ho
      have HBK := hid hbk
      have HJO := hid (HJI.out.below hbk)
      have HRO := hid (HRA.out.below hbk)
      have HCV := hid (containsV wo ja K jc (intsJ J) (by rw [intsJ_len, HKJ.out]) hJm (HJI.out.below hbk) (f : Int))
      rw [intsJ_contains] at HCV
      clear ho hbk
      cases hfJ : J.contains f
      · have hfn : f ∉ J := by simpa using hfJ
        rw [hfJ] at HCV
        have HFN := hid hfn
        clear hfJ hfn
        go_wp2_with (go_at_call 62; refine HCV.out.mono ?_; rintro e w3 ⟨rfl, rfl⟩)
        go_loopw [9, 33] (fun T i wr => ∃ t : Nat, t ≤ K ∧ i = .int .i64 t ∧ T = .int .i64 (timesP R f (J.take t) 0 1) ∧ Below wo.heap.size wo wr) (fun _ i _ => K - (intOf i).toNat)
        case atStart => exact ⟨0, Nat.zero_le _, rfl, rfl, Below.refl _ _⟩
        case round =>
          obtain ⟨t, ht, rfl, rfl, hbt⟩ := hrel
          by_cases hltt : t < K
          · have htJ : t < J.length := by rw [← HKJ.out]; exact hltt
            obtain ⟨jb, jo, rfl, _, hjc⟩ := (HJO.out.below hbt) t (by rw [intsJ_len]; exact htJ)
            obtain ⟨rb, ro, rc, hh, hcs⟩ := row_cells (HRO.out.below hbt) (t := t) (by rw [HRL.out]; omega) HRW.out hk1
            have hp0 := HPX.out t htJ
            have hsn := timesP_snoc R f J[t] (J.take t) 0 1
            rw [← List.take_succ_eq_append_getElem htJ, List.length_take, Nat.zero_add, show min t J.length = t by omega] at hsn
            obtain ⟨hT0, hT1⟩ := HTI.out f t ht
            obtain ⟨hT2, hT3⟩ := HTI.out f (t + 1) hltt
            have hjv : (intsJ J)[t]?.getD 0 = ((J[t] : Nat) : Int) := by unfold intsJ; rw [List.getElem?_map, List.getElem?_eq_getElem htJ]; rfl
            rw [hjv] at hjc
            obtain ⟨p, hp⟩ : ∃ p, p = J[t] := ⟨_, rfl⟩
            rw [← hp] at hp0 hsn hjc
            have c1 := hcs p hp0.2.2
            have c2 := hcs f hlt
            have hxb := HRP.out t f
            obtain ⟨x, hx⟩ : ∃ x, x = vec (R[t]?.getD []) p := ⟨_, rfl⟩
            obtain ⟨y, hy⟩ : ∃ x, x = vec (R[t]?.getD []) f := ⟨_, rfl⟩
            rw [← hx] at c1 hp0 hsn
            rw [← hy] at c2 hxb hsn
            obtain ⟨hx1, hx2, hpk⟩ := hp0
            obtain ⟨T, hT⟩ : ∃ T, T = timesP R f (J.take t) 0 1 := ⟨_, rfl⟩
            rw [← hT] at hT0 hT1 hsn ⊢
            rw [hsn] at hT2 hT3
            have HSN := hid hsn
            obtain ⟨hn1', hn2'⟩ := nP_le (e := y) hx1 hx2
            have HD1 := hid (fun (W : World) => divisor_c W x y (by omega) (by omega))
            have HNP := hid (show nP x y = x.tdiv (Int.gcd x y : Nat) from rfl)
            have hg0 : 0 < ((Int.gcd x y : Nat) : Int) := by
              have : 0 < Int.gcd x y := Int.gcd_pos_of_ne_zero_left _ (by omega)
              omega
            obtain ⟨g, hg⟩ : ∃ g : Int, g = (Int.gcd x y : Nat) := ⟨_, rfl⟩
            rw [← hg] at HD1 HNP hg0
            have hgz : ¬ (g = 0) := by omega
            have hw1 : IntKind.i64.wrap (x.tdiv g) = x.tdiv g := by rw [← HNP.out]; exact IntWalk.i64_in _ (by omega)
            obtain ⟨N', hN'⟩ : ∃ N', N' = nP x y := ⟨_, rfl⟩
            rw [← hN'] at hn1' hn2' hT2 hT3 HNP HSN
            have HD2 := hid (fun (W : World) => divisor_c W T N' (by omega) (by omega))
            have hg20 : 0 < ((Int.gcd T N' : Nat) : Int) := by
              have : 0 < Int.gcd T N' := Int.gcd_pos_of_ne_zero_left _ (by omega)
              omega
            obtain ⟨g2, hg2⟩ : ∃ g : Int, g = (Int.gcd T N' : Nat) := ⟨_, rfl⟩
            rw [← hg2] at HD2 hg20 hT2 hT3 HSN
            have hgz2 : ¬ (g2 = 0) := by omega
            have htd := tdiv_bnd (show 1 ≤ g2 by omega) (show -(720 : Int) ≤ N' ∧ N' ≤ 720 by omega)
            have hw2 : IntKind.i64.wrap (N'.tdiv g2) = N'.tdiv g2 := IntWalk.i64_in _ (by omega)
            have hw3 : IntKind.i64.wrap (T * N'.tdiv g2) = T * N'.tdiv g2 := IntWalk.i64_in _ (by omega)
            have hNe : x.tdiv g = N' := HNP.out.symm
            have i1 : (0 : Int) ≤ (t : Int) := by omega
            have i2 : (t : Int) < (n : Int) := by omega
            have i3 : (0 : Int) ≤ (p : Int) := by omega
            have i4 : (p : Int) < (k : Int) := by omega
            have i5 : (0 : Int) ≤ (f : Int) := by omega
            have i6 : (f : Int) < (k : Int) := by omega
            have i7 : (t : Int) < (K : Int) := by omega
            have HBT := hid hbt
            clear hjv hp hx hy hT hsn hg hN' hg2 hcs htJ hbt
            go_wp2
            go_quiet ((go_at_call 76; exact Calls.quiet_of (HD1.out _)))
            go_wp2_with (go_at_call 76; refine (HD2.out _).mono ?_; rintro e w4 ⟨rfl, q4, rfl⟩)
            exact ⟨⟨t + 1, by omega, by go_num, by rw [HSN.out], below_drewN HBT.out _⟩, by simp [intOf]; omega⟩
          · obtain rfl : t = K := by omega
            have e : J.take t = J := List.take_of_length_le (by rw [HKJ.out]; exact Nat.le_refl _)
            obtain ⟨hT0, hT1⟩ := HTI.out f t (Nat.le_refl _)
            rw [e] at hT0 hT1 ⊢
            obtain ⟨T, hT⟩ : ∃ T, T = timesP R f J 0 1 := ⟨_, rfl⟩
            rw [← hT] at hT0 hT1 ⊢
            have HTT := hid hT
            have HB5 := hid hbt
            obtain ⟨w5, hw5⟩ : ∃ w5, w5 = wr := ⟨_, rfl⟩
            subst hw5
            have hmk : ∀ w, (Instr.makeSlice 31 (.int .i64 (k : Int)) (.int .i64 (k : Int))).run Try.prog w = .ok (.slice (some ⟨w.heap.size, 0, none⟩) k k) (w.alloc (.cells (madeCells #[.int .i64 0] k) 3)) :=
              fun w => run_make_row' 31 3 (.int .i64 0) 8 Try.underlying31 li_int rfl .i64 .i64 k (by omega) (by omega) w
            obtain ⟨h0, hh0⟩ : ∃ h0, h0 = (List.replicate k (0 : Int)).set f T := ⟨_, rfl⟩
            have hh0l : h0.length = k := by rw [hh0]; simp
            obtain ⟨w7, hw7⟩ : ∃ w7, w7 = w5.alloc (.cells ((madeCells #[.int .i64 0] k).setIfInBounds f (.int .i64 T)) 3) := ⟨_, rfl⟩
            have hr7 : SpRow w7 w5.heap.size h0 := by rw [hw7, hh0]; exact sp_made_set w5 k f T
            have hb7 : Below w5.heap.size w5 w7 := by rw [hw7]; exact (Below.refl _ _).alloc (Nat.le_refl _) _
            have hs7 : w7.heap.size = w5.heap.size + 1 := by rw [hw7]; simp
            have i5 : (0 : Int) ≤ (f : Int) := by omega
            have i6 : (f : Int) < (k : Int) := by omega
            have HSET6 := hid hr7
            have HH0 := hid hh0
            have HW7 := hid hw7
            have HB7 := hid hb7
            have HL0 := hid hh0l
            clear e hT hbt hh0 hr7 hb7 hw7 hh0l
            have hmsz : (madeCells #[Value.int .i64 0] k).size = k := by rw [size_madeCells]
            go_wp2
            rw [← HW7.out]
            clear hmk hmsz
            go_loopw [78] (fun i wr => ∃ s : Nat, s ≤ t ∧ i = .int .i64 s ∧ SpRow wr w5.heap.size (fillF (valP R f T) (J.take s) 0 h0) ∧ Keep (fun q => q ≠ w5.heap.size) w7 wr) (fun i _ => t - (intOf i).toNat)
            case atStart => exact ⟨0, Nat.zero_le _, rfl, HSET6.out, Keep.refl _ _⟩
            case round =>
              obtain ⟨s, hs, rfl, hr, hkp⟩ := hrel
              have hb57 : Below w5.heap.size w5 wr := hkp.below HB7.out (by omega) (fun q hq => by omega)
              have hbo := chain HB5.out hb57
              by_cases hlts : s < t
              · have htJ : s < J.length := by rw [← HKJ.out]; exact hlts
                obtain ⟨jb, jo, rfl, _, hjc⟩ := (HJO.out.below hbo) s (by rw [intsJ_len]; exact htJ)
                obtain ⟨rb, ro, rc, hh, hcs⟩ := row_cells (HRO.out.below hbo) (t := s) (by rw [HRL.out]; omega) HRW.out hk1
                have hp0 := HPX.out s htJ
                have hsn := fillF_snoc (valP R f T) J[s] (J.take s) 0 h0
                rw [← List.take_succ_eq_append_getElem htJ, List.length_take, Nat.zero_add, show min s J.length = s by omega] at hsn
                have hjv : (intsJ J)[s]?.getD 0 = ((J[s] : Nat) : Int) := by unfold intsJ; rw [List.getElem?_map, List.getElem?_eq_getElem htJ]; rfl
                rw [hjv] at hjc
                obtain ⟨p, hp⟩ : ∃ p, p = J[s] := ⟨_, rfl⟩
                rw [← hp] at hp0 hsn hjc
                have c1 := hcs p hp0.2.2
                have c2 := hcs f hlt
                have hxb := HRP.out s f
                have hval : valP R f T s p = (-(vec (R[s]?.getD []) f) * T).tdiv (vec (R[s]?.getD []) p) := rfl
                obtain ⟨x, hx⟩ : ∃ x, x = vec (R[s]?.getD []) p := ⟨_, rfl⟩
                obtain ⟨y, hy⟩ : ∃ x, x = vec (R[s]?.getD []) f := ⟨_, rfl⟩
                rw [← hx] at c1 hp0 hval
                rw [← hy] at c2 hxb hval
                rw [hval] at hsn
                obtain ⟨hx1, hx2, hpk⟩ := hp0
                have hlenF : (fillF (valP R f T) (J.take s) 0 h0).length = k := by rw [fillF_len, HL0.out]
                have c3 := hr.cell (j := p) (by rw [hlenF]; exact hpk)
                obtain ⟨z3, hz3⟩ : ∃ z, z = (fillF (valP R f T) (J.take s) 0 h0)[p]?.getD 0 := ⟨_, rfl⟩
                rw [← hz3] at c3
                have c4 := hr.frozen p
                have HSET := hid (fun (X : World) (hX : X.heap[w5.heap.size]? = wr.heap[w5.heap.size]?) v => (hr.keep hX).set p (by rw [hlenF]; exact hpk) v)
                have hgs := hr.lt
                have HSN := hid hsn
                have HKP := hid hkp
                have pm := mul_bnd (show -(720 : Int) ≤ -y ∧ -y ≤ 720 by omega) (show -(720 : Int) ≤ T ∧ T ≤ 720 by omega)
                have td := tdiv_bnd (show 1 ≤ x by omega) (show -(518400 : Int) ≤ -y * T ∧ -y * T ≤ 518400 by omega)
                have wn : IntKind.i64.wrap (-y) = -y := IntWalk.i64_in _ (by omega)
                have wm : IntKind.i64.wrap (-y * T) = -y * T := IntWalk.i64_in _ (by omega)
                have wq : IntKind.i64.wrap ((-y * T).tdiv x) = (-y * T).tdiv x := IntWalk.i64_in _ (by omega)
                have hxz : ¬ (x = 0) := by omega
                have i1 : (0 : Int) ≤ (s : Int) := by omega
                have i2 : (s : Int) < (n : Int) := by omega
                have i3 : (0 : Int) ≤ (p : Int) := by omega
                have i4 : (p : Int) < (k : Int) := by omega
                have i7 : (s : Int) < (t : Int) := by omega
                clear hjv hp hx hy hsn hcs htJ hval hlenF hz3 hr hkp hb57 hbo pm td
                go_wp2
                go_still_tail 21, (by kernel_rfl)
                change wpList _ _ _ _ _ wr.drew
                go_wp2
                refine ⟨⟨s + 1, by omega, by go_num, ?_, (HKP.out.drewN 1).trans (Keep.set wr.drew w5.heap.size p _)⟩, by simp [intOf]; omega⟩
                rw [HSN.out]
                exact HSET.out wr.drew rfl _
              · obtain rfl : s = t := by omega
                have e : J.take s = J := List.take_of_length_le (by rw [HKJ.out]; exact Nat.le_refl _)
                rw [e] at hr
                have hraw : fillF (valP R f T) J 0 h0 = rawP R J k f := by unfold rawP; rw [HH0.out, HTT.out]
                rw [hraw] at hr
                have hbR : BndL 4611686018427387904 (rawP R J k f) := by
                  refine mem_vec (P := fun x => -((4611686018427387904 : Nat) : Int) ≤ x ∧ x ≤ ((4611686018427387904 : Nat) : Int)) fun c => ?_
                  have := HRAW.out f hlt HFN.out c
                  omega
                have HSH := hid (shortened_c wr w5.heap.size k k (rawP R J k f) (rawP_len R J k f) (by unfold maxLen; omega) hr hbR)
                have HBO := hid hbo
                have HB57 := hid hb57
                clear e hraw hr hbR hkp hb57 hbo
                go_wp2_with (go_at_call 116; refine HSH.out.mono ?_; rintro e w8 ⟨rfl, hs8, hk8⟩; refine Stop.of ?_)
                refine Stop.go ?_
                have hbo8 : Below wo.heap.size wo w8 := by
                  have h1 := HBO.out
                  have h2 := HB5.out.size
                  exact hk8.below h1 h1.size (fun q hq => by omega)
                obtain ⟨X, hX⟩ : ∃ X, X = kerP R J k f := ⟨_, rfl⟩
                have hXs : shortF (rawP R J k f) = X := hX.symm
                have hXl : X.length = k := by rw [hX, kerP_len]
                rw [hXs] at hs8
                have hkt := kernTo_succ_out (R := R) (n := k) HFN.out
                rw [← hX] at hkt
                have hle := kernTo_le R J k f
                obtain ⟨Kt, hKt⟩ : ∃ Kt, Kt = kernTo R J k f := ⟨_, rfl⟩
                have HO' := HO.out
                rw [← hKt] at hkt hle HO'
                obtain ⟨g', vs, ho, hin, he⟩ := HO'
                obtain ⟨m, hm⟩ : ∃ m, m = Kt.length := ⟨_, rfl⟩
                rw [← hm] at ho hle
                obtain ⟨va, vc, rfl⟩ := ownsRow_slice ho
                have hb2a : Below wo.heap.size wo (w8.alloc (.cells #[.slice (some ⟨w5.heap.size, 0, none⟩) k k] 31)) := hbo8.alloc hbo8.size _
                have M1 := hid (show m + 1 ≤ maxLen by unfold maxLen; omega)
                have M2 := hid (show (m + 1) * 24 ≤ 140737488355328 by omega)
                have M3 := hid (Nat.le_trans HBK.out.size hb2a.size)
                have HO2' := hid (own_below ho hb2a)
                have HE := hid he
                have HIN := hid hin
                have HSR2 := hid hs8
                have HB2' := hid hb2a
                have HOO := hid ho
                have HML := hid hm
                have HXL := hid hXl
                have HKT := hid hkt
                have hg5 : wo.heap.size ≤ w5.heap.size := HB5.out.size
                clear he hin hs8 hb2a ho hX hXs hXl hkt hle hKt hm hk8 hbo8
                go_wp2_with (at_builtin; refine wpList_app _ rfl (.tmp 107) (.tmp 109) 22 rfl w2.heap.size 31 (.slice none 0 0) 1 24 Try.underlying22 li_ints rfl Nat.one_pos (.slice va m vc) m vs rfl HO2'.out (some ⟨w8.heap.size, 0, none⟩) 1 1 [.slice (some ⟨w5.heap.size, 0, none⟩) k k] rfl rfl no_none (one_news w8 _ _) (slice_oneCell _ _ _) M1.out M2.out M3.out ?_; refine Stop.of ?_)
                refine Stop.go ?_
                intro a5 c5 w9 own5 g5
                have hsn9 : OwnM w9 w2.heap.size (.slice a5 (m + 1) c5) (Kt ++ [X]) := by
                  have own5' : w9.ownsRow w2.heap.size 31 1 (.slice a5 (m + 1) c5) (Kt.length + 1) (vs ++ [.slice (some ⟨w5.heap.size, 0, none⟩) X.length k]) := by rw [← HML.out, HXL.out]; exact own5
                  exact OwnM.snoc (by rw [← HML.out]; exact HOO.out) HIN.out HE.out HB2'.out (HSR2.out.keep (Below.heap_alloc _ _ _ HSR2.out.lt)) hg5 (Nat.le_of_eq HXL.out) HBK.out.size g5 own5'
                have hB9 : Below w2.heap.size w2 w9 := (HBK.out.trans (HB2'.out.mono HBK.out.size)).grown g5 M3.out (fun q hq => (HO2'.out.lt q hq).1)
                rw [← HKT.out] at hsn9
                go_wp2
                exact ⟨⟨f + 1, by omega, by go_num, hsn9, hB9⟩, by simp [intOf]; omega⟩
      · have hfi : f ∈ J := by simpa using hfJ
        rw [hfJ] at HCV
        have HKT := hid (kernTo_succ_in (R := R) (n := k) hfi)
        clear hfJ hfi
        go_wp2_with (go_at_call 62; refine HCV.out.mono ?_; rintro e w3 ⟨rfl, rfl⟩)
        exact ⟨⟨f + 1, by omega, by go_num, by rw [HKT.out]; exact HO.out, HBK.out⟩, by simp [intOf]; omega⟩
    · obtain rfl : f = k := by omega
      rw [kernTo_all] at ho
      go_wp2
      go_ret
      exact ⟨_, w2.heap.size, rfl, hsz, ho, HBW.out.trans (hbk.mono hsz)⟩
end Go.Proofs.Ytfipebkhomppmaa

/- Walk: Idle of package bit. -/
import Derived.Test.YtdcflpfaaeijoaaBitAK
namespace Go.Proofs.Ytdcflpfaaeijoaa
open Go.RowKit
set_option linter.unusedVariables false
attribute [local go_sem] Oper.semAt_some

set_option maxRecDepth 100000 in
set_option maxHeartbeats 4000000 in
theorem idle_c (w : World) (p t : Int) (a : Option Addr) (n cap : Nat) (l : List Cel) (hn : l.length = n) (hm : n ≤ maxLen) (H : CellsAt w a l) :
    Calls Try.prog 41 #[.agg #[.int .i64 p, .int .i64 t], .slice a n cap] w fun e w' => ResInts (cellsE p t l) (idleV p t l) w e w' := by
  obtain ⟨wf, hwf⟩ : ∃ wf, wf = (w.alloc (.cells #[.int .i64 p, .int .i64 t] 23)).alloc (.cells #[.slice a n cap] 24) := ⟨_, rfl⟩
  have hsz : wf.heap.size = w.heap.size + 2 := by rw [hwf]; simp
  have hb0 : Below w.heap.size w wf := by rw [hwf]; exact (((Below.refl _ w).alloc (Nat.le_refl _) _).alloc (by simp) _)
  have hB1 : Boxed wf (w.heap.size + 1) 24 (.slice a n cap) := by
    rw [hwf]
    have := (Boxed.new (w.alloc (.cells #[.int .i64 p, .int .i64 t] 23)) 24 (.slice a n cap))
    rwa [World.size_alloc] at this
  have hF0 : wf.cell? ⟨w.heap.size, 0, none⟩ = some (.int .i64 p) := by rw [hwf, World.cell?_alloc_lt _ _ _ (by simp), World.cell?_alloc_at _ _ _ _ rfl]; rfl
  have hF1 : wf.cell? ⟨w.heap.size, 1, none⟩ = some (.int .i64 t) := by rw [hwf, World.cell?_alloc_lt _ _ _ (by simp), World.cell?_alloc_at _ _ _ _ rfl]; rfl
  have HF := hid (fun (W : World) (hb : Below wf.heap.size wf W) => And.intro ((hb.cell (p := ⟨w.heap.size, 0, none⟩) (show w.heap.size < wf.heap.size by omega)).trans hF0) (And.intro ((hb.cell (p := ⟨w.heap.size, 1, none⟩) (show w.heap.size < wf.heap.size by omega)).trans hF1) (boxed_below hB1 hb)))
  have HV := hid (fun (W : World) (hb : Below w.heap.size w W) => validCells_c W p t a n cap l hn hm (H.below hb))
  have HB0 := hid hb0
  have HSZ := hid hsz
  clear hB1 hF0 hF1 hb0 hsz
  cases hf : okCells p t l
  · have e1 : cellsE p t l = 1 := by simp [cellsE, hf]
    have e2 : idleV p t l = [] := by simp [idleV, hf]
    rw [e1, e2]
    clear e1 e2 hn H
    rw [hf] at HV
    go_enter Try.func41, Try.ntmps41
    go_wp2_with fail
    rw [← hwf]
    clear hwf
    refine (HV.out _ HB0.out).mono ?_
    rintro e w1 ⟨rfl, hb1⟩
    obtain ⟨f0, f1, f2⟩ := HF.out _ hb1
    have c2 := f2.cell
    clear f2
    go_wp2
    go_ret2
    exact ⟨none, 0, 0, rfl, rfl, by decide, fun j hj => by simp at hj, chain HB0.out hb1⟩
  · obtain ⟨hfd, hrows⟩ := okCells_bd hf
    obtain ⟨p1, p8, t0, t3⟩ := okField_bd hfd
    obtain ⟨P, rfl⟩ := Int.eq_ofNat_of_zero_le (show 0 ≤ p by omega)
    obtain ⟨T, rfl⟩ := Int.eq_ofNat_of_zero_le t0
    have e1 : cellsE (P : Int) (T : Int) l = 0 := by simp [cellsE, hf]
    have e2 : idleV (P : Int) (T : Int) l = (idleN P T l).map (fun i : Nat => (i : Int)) := by simp [idleV, hf]
    rw [e1, e2]
    have hn30 : n ≤ 30 := by
      simp only [okCells, Bool.and_eq_true, decide_eq_true_eq] at hf
      omega
    rw [hf] at HV
    have HN := hid hn
    have HH := hid H
    have HROW := hid hrows
    have hP : P ≤ 8 := by omega
    have hT : T ≤ 3 := by omega
    have hmk : ∀ w, (Instr.makeSlice 90 (.int .i64 (n : Int)) (.int .i64 (n : Int))).run Try.prog w = .ok (.slice (some ⟨w.heap.size, 0, none⟩) n n) (w.alloc (.cells (madeCells #[.bool false] n) 4)) :=
      fun w => run_make_row' 90 4 (.bool false) 1 Try.underlying90 info_bool rfl .i64 .i64 n (by omega) (by omega) w
    clear e1 e2 hn H hrows
    refine callsIn_wide (n := 0) |>.1 ?_
    refine callsIn_of_wp_marks Try.func41 rfl trivial ?_ rfl
    simp only [Try.ntmps41, List.size_toArray, List.length_cons, List.length_nil, Nat.reduceAdd, Nat.reduceSub, Array.replicate_succ, Array.replicate_zero, List.push_toArray, List.append_toArray, List.nil_append, List.cons_append]
    gi_wp2_with (refine ⟨trivial, rfl, ?_⟩; gi_at_call 21; refine Stop.of ?_)
    refine Stop.go ?_
    rw [← hwf]
    clear hwf
    refine (callsIn_wide.2 (HV.out _ HB0.out)).mono ?_
    rintro e w1 ⟨rfl, hb1⟩
    obtain ⟨f0, f1, f2⟩ := HF.out _ hb1
    have F2 := hid f2
    have c2 := f2.cell
    clear f2
    obtain ⟨wm, hwm⟩ : ∃ wm, wm = (w1.alloc (.cells (madeCells #[.bool false] n) 4)).alloc (.cells #[.slice (some ⟨w1.heap.size, 0, none⟩) n n] 90) := ⟨_, rfl⟩
    have hszm : wm.heap.size = w1.heap.size + 2 := by rw [hwm]; simp
    have hbm : Below w1.heap.size w1 wm := by rw [hwm]; exact (((Below.refl _ w1).alloc (Nat.le_refl _) _).alloc (by simp) _)
    have hrow : BoolRow wm 4 w1.heap.size (List.replicate n false) := by
      rw [hwm]
      exact (BoolRow.made w1 4 n).keep (Below.heap_alloc _ _ _ (by simp))
    have hbox : Boxed wm (w1.heap.size + 1) 90 (.slice (some ⟨w1.heap.size, 0, none⟩) n n) := by
      rw [hwm]
      have := Boxed.new (w1.alloc (.cells (madeCells #[.bool false] n) 4)) 90 (.slice (some ⟨w1.heap.size, 0, none⟩) n n)
      rwa [World.size_alloc] at this
    have hs1 : w.heap.size + 2 ≤ w1.heap.size := by have := hb1.size; have := HSZ.out; omega
    have g0 : wm.cell? ⟨w.heap.size, 0, none⟩ = some (.int .i64 P) := (hbm.cell (p := ⟨w.heap.size, 0, none⟩) (by show w.heap.size < _; omega)).trans f0
    have g1 : wm.cell? ⟨w.heap.size, 1, none⟩ = some (.int .i64 T) := (hbm.cell (p := ⟨w.heap.size, 1, none⟩) (by show w.heap.size < _; omega)).trans f1
    rw [hwm] at g0 g1
    have HWM := hid hwm
    have HRW := hid hrow
    have HBX := hid hbox
    have HSM := hid hszm
    clear hwm hrow hbox hszm
    gi_wp2_with (refine ⟨trivial, rfl, ?_⟩; gi_at_call 79; refine (callsIn_wide.2 (pictures_c _ _ _)).mono ?_; rintro e w' ⟨rfl, rfl⟩)
    rw [← HWM.out]
    clear g0 g1 HWM f0 f1
    obtain ⟨wL, hwL⟩ : ∃ wL, wL = wm.alloc (.cells #[.int .i64 (P : Int), .int .i64 (T : Int)] 23) := ⟨_, rfl⟩
    have hszL : wL.heap.size = w1.heap.size + 3 := by rw [hwL, World.size_alloc, HSM.out]
    have hbmL : Below wm.heap.size wm wL := by rw [hwL]; exact (Below.refl _ _).alloc (Nat.le_refl _) _
    have hbL : Below w.heap.size w wL := chain (chain (chain HB0.out hb1) hbm) hbmL
    have hbfL : Below wf.heap.size wf wL := chain (chain hb1 hbm) hbmL
    have hG0 : wL.cell? ⟨w1.heap.size + 2, 0, none⟩ = some (.int .i64 P) := by rw [hwL, World.cell?_alloc_at _ _ _ _ HSM.out.symm]; rfl
    have hG1 : wL.cell? ⟨w1.heap.size + 2, 1, none⟩ = some (.int .i64 T) := by rw [hwL, World.cell?_alloc_at _ _ _ _ HSM.out.symm]; rfl
    have hRowL : BoolRow wL 4 w1.heap.size (ndB l []) := by
      rw [ndB_nil, HN.out]; exact HRW.out.keep (hbmL.block _ HRW.out.lt)
    have hBoxL := boxed_below HBX.out hbmL
    have hCelL : Boxed wL (w.heap.size + 1) 24 (.slice a n cap) := (HF.out _ hbfL).2.2
    rw [← hwL]
    clear hwL c2 hmk
    have hpicl : ∀ x ∈ pics (T + 1) P, x.length = P := fun x hx => (mem_pics (by omega) hx).1
    have HPL := hid hpicl
    clear hpicl
    refine range_ints (gf := 99) (lb := #[.pointer (some ⟨w1.heap.size + 2, 0, none⟩)]) (xs := pics (T + 1) P) (fp := fun k => k = w1.heap.size + 2) (E := 3) rfl (enters_of Try.func99 (by kernel_rfl) rfl)
      (iter_pics wL P T (w1.heap.size + 2) hP hT (by omega) hG0 hG1) (Below.refl _ _) (by intro k hk; omega)
      (fun it pre W => BoolRow W 4 w1.heap.size (ndB l pre) ∧ Boxed W (w1.heap.size + 1) 90 (.slice (some ⟨w1.heap.size, 0, none⟩) n n) ∧ Boxed W (w.heap.size + 1) 24 (.slice a n cap) ∧ Below w.heap.size w W)
      (fun _ _ _ => False) ?hI (fun _ _ _ _ h _ => h) ?h0
      (fun v => { tmps := #[.agg #[.int .i64 P, .int .i64 T], .slice a n cap, .pointer (some ⟨w.heap.size, 0, none⟩), .pointer (some ⟨w.heap.size + 1, 0, none⟩), .slice none 0 0, .int .i64 0, .pointer (some ⟨w1.heap.size + 1, 0, none⟩), v, undef, undef, undef, undef, undef, undef, undef, .agg #[.int .i64 P, .int .i64 T], .slice a n cap, .bool true, .bool false, .slice a n cap, .int .i64 n, .slice (some ⟨w1.heap.size, 0, none⟩) n n, .agg #[.int .i64 P, .int .i64 T], .func (.func 99) #[] #[.pointer (some ⟨w1.heap.size + 2, 0, none⟩)], v, undef, undef, undef, undef, undef, undef, undef, undef, undef, undef, undef, undef, undef, undef, undef, undef, undef, undef, undef, undef, undef, undef, undef, undef, undef, undef, undef, undef, undef, undef, undef, undef, undef, undef, undef], defers := [] }) ?assign ?body ?done ?stop
    case hI =>
      rintro it s A B hit ⟨h1, h2, h3, hb⟩ hk
      rw [hszL] at hit hk
      exact ⟨h1.keep (hk.block _ h1.lt (by omega)), (hk.block _ h2.lt (by omega)).trans h2, (hk.block _ h3.lt (by omega)).trans h3, hk.below hb hb.size (fun k _ => by omega)⟩
    case h0 => intro it _; exact ⟨hRowL, hBoxL, hCelL, hbL⟩
    case assign =>
      intro l v W K hK
      gi_wp2
      exact hK
    case body =>
      rintro l' it pre x cap' sp W hit hpre ⟨hv1, hv2, hv3, hBW⟩ hitW hx hDo hLo
      rw [hszL] at hit hDo hLo ⊢
      have hxl : x.length = P := HPL.out x (hpre.subset (by simp))
      have HXI := hid (show IntsAt W (some ⟨it, 0, none⟩) x from ints_of_row hx)
      have hc1 : W.cell? ⟨w.heap.size + 1, 0, none⟩ = some (.slice a n cap) := hv3.cell
      have HW := hid (show w1.heap.size + 4 < W.heap.size from by obtain ⟨o, ho, _⟩ := hLo; exact (Array.getElem?_eq_some_iff.1 ho).1)
      have HV1 := hid hv1
      have HV2 := hid hv2
      have HV3 := hid hv3
      have HXL := hid hxl
      have HCS := hid (fun k => show cw l x (k + 1) = if fitC x (cellAt l k) then cw l x k else ((cw l x k).1 + 1, k) from rfl)
      have HCB := hid (cw_le l x)
      clear hx hxl hpre hDo hLo hv1 hv2 hv3 hRowL hBoxL hCelL hG0 hG1
      gi_wp2
      gi_loopw [8, 9, 27] (fun s8 s9 s27 wr => ∃ k : Nat, k ≤ n ∧ s27 = .int .i64 k ∧ s8 = .int .i64 ((cw l x k).1 : Nat) ∧ s9 = .int .i64 ((cw l x k).2 : Nat) ∧ Below W.heap.size W wr) (fun _ _ i _ => n - (intOf i).toNat)
      case atStart => exact ⟨0, Nat.zero_le _, rfl, rfl, rfl, Below.refl _ _⟩
      case round =>
        obtain ⟨k, hk, rfl, rfl, rfl, hb⟩ := hrel
        have hbnd := HCB.out k
        have hstep := HCS.out k
        obtain ⟨A1, hA1⟩ : ∃ A, A = (cw l x k).1 := ⟨_, rfl⟩
        obtain ⟨A2, hA2⟩ : ∃ A, A = (cw l x k).2 := ⟨_, rfl⟩
        rw [← hA1, ← hA2] at hbnd
        rw [← hA1] at hstep
        rw [← hA1, ← hA2]
        obtain ⟨hbd1, hbd2⟩ := hbnd
        have HA := hid (And.intro hA1 hA2)
        clear hA1 hA2
        by_cases hlt : k < n
        · have hkl : k < l.length := by rw [HN.out]; exact hlt
          obtain ⟨b, off, ra, rn, rc, rfl, hbs, h0, h1, h2, hrn, hrm, hri⟩ := HH.out.below (chain hBW hb) k hkl
          have hce : cellAt l k = l[k] := by unfold cellAt; rw [List.getElem?_eq_getElem hkl]; rfl
          have hrl : (l[k]).row.length ≤ x.length := by rw [HXL.out]; have := HROW.out _ (List.getElem_mem hkl); omega
          have hb1' : Below wr.heap.size wr (wr.alloc (.cells #[.slice ra rn rc, .int .i64 l[k].lo, .int .i64 l[k].hi] 41)) := (Below.refl _ _).alloc (Nat.le_refl _) _
          have HC := hid (bitIn_c (wr.alloc (.cells #[.slice ra rn rc, .int .i64 l[k].lo, .int .i64 l[k].hi] 41)) (.agg #[.slice ra rn rc, .int .i64 l[k].lo, .int .i64 l[k].hi]) l[k] ⟨ra, rn, rc, rfl, hrn, hrm, hri.below hb1'⟩ (some ⟨it, 0, none⟩) x.length cap' x rfl hrl (HXI.out.below (chain hb hb1')))
          rw [hce] at hstep
          clear hrn hri hce hrl
          have HST := hid hstep
          clear hstep
          cases hpx : fitC x l[k]
          · gi_wp2_with (refine ⟨trivial, rfl, ?_⟩; gi_at_call 81; refine (CallsIn.inRound l' (callsIn_wide.2 HC.out)).mono ?_; rintro e w3 ⟨rfl, hb3⟩)
            have hq := HST.out
            rw [hpx] at hq
            simp only [Bool.false_eq_true, if_false] at hq
            refine ⟨⟨k + 1, by omega, by go_num, by rw [hq]; go_num, by rw [hq], chain (chain hb hb1') hb3⟩, by simp [intOf]; omega⟩
          · gi_wp2_with (refine ⟨trivial, rfl, ?_⟩; gi_at_call 81; refine (CallsIn.inRound l' (callsIn_wide.2 HC.out)).mono ?_; rintro e w3 ⟨rfl, hb3⟩)
            have hq := HST.out
            rw [hpx, if_pos rfl] at hq
            refine ⟨⟨k + 1, by omega, by go_num, by rw [hq, ← HA.out.1], by rw [hq, ← HA.out.2], chain (chain hb hb1') hb3⟩, by simp [intOf]; omega⟩
        · obtain rfl : k = n := by omega
          have hv1' := HV1.out.keep (hb.block _ HV1.out.lt)
          have hv2' := boxed_below HV2.out hb
          have hv3' := boxed_below HV3.out hb
          have hnd := ndB_snoc l pre x
          rw [HN.out, ← HA.out.1, ← HA.out.2] at hnd
          have HND := hid hnd
          have hd := HW.out
          clear hnd
          by_cases hc : A1 = 1
          · have hlt2 : A2 < k := by
              have := ((cw_spec l x k).2.1 (by rw [← HA.out.1]; exact hc)).1
              rw [← HA.out.2] at this; exact this
            have c6 := hv2'.cell
            have c7 := hv1'.cell (j := A2) (by rw [ndB_len, HN.out]; exact hlt2)
            have c8 := hv1'.frozen A2
            have H1 := hid hv1'
            have H2 := hid hv2'
            have H3 := hid hv3'
            subst hc
            clear hv1' hv2' hv3'
            gi_wp2
            have hkw : Keep (fun q => q ≠ w1.heap.size) wr (wr.setCell ⟨w1.heap.size, A2, none⟩ (.bool true)) := Keep.set wr _ A2 _
            have hkk := (Keep.of_below hb : Keep (fun q => q ≠ w1.heap.size) W wr).trans hkw
            refine ⟨hkk.size, fun q hq => hkk.block q ?_ ?_, ?_, (hkw.block _ H2.out.lt (by omega)).trans H2.out, (hkw.block _ H3.out.lt (by omega)).trans H3.out, hkk.below hBW hBW.size (fun q hq => by omega)⟩
            · rcases hq with hq | hq | hq | hq <;> omega
            · rcases hq with hq | hq | hq | hq <;> omega
            · rw [HND.out]; simp only [if_true]; exact H1.out.set A2 true
          · have hc' : ((A1 : Int) == 1) = false := by simp; omega
            have H1 := hid hv1'
            have H2 := hid hv2'
            have H3 := hid hv3'
            clear hv1' hv2' hv3'
            gi_wp2
            refine ⟨hb.size, fun q hq => hb.block q ?_, ?_, H2.out, H3.out, chain hBW hb⟩
            · rcases hq with hq | hq | hq | hq <;> omega
            · rw [HND.out, if_neg hc]; exact H1.out
    case done =>
      rintro it W hit ⟨hv1, hv2, hv3, hBW⟩ hK
      rw [hszL] at hit hK ⊢
      have c6 := hv2.cell
      have HK := hid hK
      have HV1 := hid hv1
      have HIF := hid (fun (i : Nat) (hi : i < n) => idle_iff (P := P) (T := T) l (i := i) (by rw [HN.out]; exact hi))
      have HNL := hid (show (ndB l (pics (T + 1) P)).length = n by rw [ndB_len, HN.out])
      clear hv1 hv2 hv3 hK hRowL hBoxL hCelL hG0 hG1
      gi_wp2
      refine wpIn_wide.2 ?_
      obtain ⟨kl, hkl⟩ : ∃ kl : Nat → List Int, kl = fun k => ((List.range k).filter (fun i => !((ndB l (pics (T + 1) P))[i]?.getD false))).map (fun i : Nat => (i : Int)) := ⟨_, rfl⟩
      obtain ⟨nb, hnb⟩ : ∃ nb, nb = ndB l (pics (T + 1) P) := ⟨_, rfl⟩
      have hfin : kl n = (idleN P T l).map (fun i : Nat => (i : Int)) := by
        rw [hkl]
        unfold idleN
        rw [HN.out]
        refine congrArg (List.map _) (List.filter_congr ?_)
        intro i hi
        rw [HIF.out i (List.mem_range.1 hi), Bool.not_not]
      rw [← hnb] at hkl HNL HV1
      have hks : ∀ k, kl (k + 1) = kl k ++ (if (nb[k]?.getD false) then [] else [(k : Int)]) := by
        intro k
        rw [hkl]
        simp only [List.range_succ, List.filter_append, List.map_append]
        congr 1
        cases h : nb[k]?.getD false <;> simp [h]
      have hkn : ∀ k, (kl k).length ≤ k := by
        intro k
        rw [hkl]
        simp only [List.length_map]
        exact Nat.le_trans (List.length_filter_le _ _) (by simp)
      have hk0 : kl 0 = [] := by rw [hkl]; rfl
      have HKS := hid hks
      have HKN := hid hkn
      have HK0 := hid hk0
      have HFIN := hid hfin
      have HBW := hid hBW
      clear hkl hnb hks hkn hk0 hfin hBW HIF c6
      go_loopw [12, 47] (fun v i wr => ∃ k : Nat, k ≤ n ∧ i = .int .i64 k ∧ wr.ownsRow W.heap.size 3 1 v (kl k).length ((kl k).map (Value.int .i64)) ∧ Below W.heap.size W wr) (fun _ i _ => n - (intOf i).toNat)
      case atStart => exact ⟨0, Nat.zero_le _, rfl, by rw [HK0.out]; exact World.ownsRow_nil _ _ _ _, Below.refl _ _⟩
      case round =>
        obtain ⟨k, hk, rfl, ho, hb⟩ := hrel
        have HO := hid ho
        obtain ⟨a4, c4, rfl⟩ := ownsRow_slice ho
        clear ho
        have hkl := HKN.out k
        have hks := HKS.out k
        obtain ⟨m, hmE⟩ : ∃ m, m = (kl k).length := ⟨_, rfl⟩
        rw [← hmE] at hkl HO ⊢
        have HM := hid hmE
        clear hmE
        by_cases hlt : k < n
        · have hcx : wr.cell? ⟨w1.heap.size, k, none⟩ = some (.bool (nb[k]?.getD false)) := (hb.cell (p := ⟨w1.heap.size, k, none⟩) HV1.out.lt).trans (HV1.out.cell (by rw [HNL.out]; exact hlt))
          have N1 := one_news wr (.int .i64 (k : Int)) 3
          have N2 := Nat.le_trans hb.size (le_alloc wr (.cells #[.int .i64 (k : Int)] 3))
          have hla : Below W.heap.size W (wr.alloc (.cells #[.int .i64 (k : Int)] 3)) := hb.alloc hb.size _
          have N3 := HO.out.alloc (.cells #[.int .i64 (k : Int)] 3)
          have M5 := hid (show m + 1 ≤ maxLen by unfold maxLen; omega)
          have M6 := hid (show (m + 1) * 8 ≤ 140737488355328 by omega)
          have M7 := hid N2
          have HN1 := hid N1
          have HN3 := hid N3
          have HLA := hid hla
          clear N1 N2 N3 hla
          cases hbk : nb[k]?.getD false
          · rw [hbk] at hks hcx
            simp only [Bool.false_eq_true, if_false] at hks
            have HK1 := hid hks
            have HBK := hid hbk
            clear hks hbk
            go_wp2_with (at_builtin; refine wpList_app _ rfl (.tmp 54) (.tmp 56) 25 rfl W.heap.size 3 (.int .i64 0) 1 8 Try.underlying25 info_int rfl Nat.one_pos (.slice a4 m c4) m ((kl k).map (Value.int .i64)) rfl HN3.out (some ⟨wr.heap.size, 0, none⟩) 1 1 [.int .i64 (k : Int)] rfl rfl no_none HN1.out (ints_oneCell .i64 [(k : Int)]) M5.out M6.out M7.out ?_; refine Stop.of ?_)
            refine Stop.go ?_
            intro a5 c5 w5 own5 g5
            have hb5 := HLA.out.grown g5 M7.out (fun j hj => (HN3.out.lt j hj).1)
            have HO5 := hid own5
            clear own5
            go_wp2
            refine ⟨⟨k + 1, by omega, by go_num, ?_, hb5⟩, by simp [intOf]; omega⟩
            have := HO5.out
            rw [HK1.out, List.length_append, List.map_append, ← HM.out]
            exact this
          · rw [hbk] at hks hcx
            simp only [if_true, List.append_nil] at hks
            have HK1 := hid hks
            have HBK := hid hbk
            clear hks hbk
            go_wp2
            refine ⟨⟨k + 1, by omega, by go_num, ?_, hb⟩, by simp [intOf]; omega⟩
            rw [HK1.out, ← HM.out]
            exact HO.out
        · obtain rfl : k = n := by omega
          go_wp2
          gi_wp2
          have hKr : wr.heap[w1.heap.size + 3]? = some (.deferred (some [])) := (hb.block _ (Array.getElem?_eq_some_iff.1 HK.out).1).trans HK.out
          refine ⟨by simp, .inl ⟨_, _, rfl, run_takeDeferred hKr, ?_⟩⟩
          have hkp := Keep.put wr (w1.heap.size + 3) (.deferred none)
          have hbw := chain HBW.out hb
          refine ⟨.tuple #[.slice a4 m c4, .int .i64 0], ?_, a4, m, c4, rfl, ?_, by unfold maxLen; omega, ?_, ?_⟩
          · simp [results, Try.results41, go_sem]
          · rw [← HFIN.out]; exact HM.out.symm
          · rw [← HFIN.out]
            have hown : (wr.putObj (w1.heap.size + 3) (.deferred none)).ownsRow W.heap.size 3 1 (.slice a4 m c4) m ((kl k).map (Value.int .i64)) := by
              rcases HO.out.2 with h | ⟨g, cap', cur, e, hbg, hgg, rest⟩
              · exact ⟨HO.out.1, .inl h⟩
              · refine ⟨HO.out.1, .inr ⟨g, cap', cur, e, hbg, (World.putObj_heap_other ?_).trans hgg, rest⟩⟩
                rintro rfl
                have := (Array.getElem?_eq_some_iff.1 HK.out).1
                omega
            exact own_ints_at hown HM.out.symm (by unfold maxLen; omega)
          · exact hkp.below hbw hbw.size (fun q hq => by omega)
    case stop => intro c pre W _ h _; exact h.elim
end Go.Proofs.Ytdcflpfaaeijoaa

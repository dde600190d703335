/- Walks and plain laws for StreamLosesRow, part 10. -/
import Derived.Test.YtkmjeegnijohmaaGreatPkStreamLosesRow9
namespace Go.Proofs.YtkmjeegnijohmaaGreat
open Go.RowKit
set_option linter.unusedVariables false

theorem frames_none {W : World} {n : Nat} {F : List Frm} (h : FramesAt W none F) (hn : F.length = n) : n = 0 := by
  rcases Nat.eq_zero_or_pos n with h0 | h0
  · exact h0
  · obtain ⟨_, _, _, _, _, e, _⟩ := h 0 (by omega); cases e

theorem cloneF_c (w : World) (a : Option Addr) (n cap : Nat) (F : List Frm) (hn : F.length = n) (hm : n ≤ 1000) (H : FramesAt w a F) :
    Calls Tryz.prog 89 #[.slice a n cap] w fun e w' => ∃ v, e = .returned v ∧ FrmsO w' w.heap.size (fun _ => True) v F ∧ Below w.heap.size w w' := by
  have heq := fun (w : World) (a : Option Addr) (n c : Nat) => Lib.run_eql_slice_nil (P := Tryz.prog) w 37 47 a n c 0 0 Tryz.underlying37
  cases a with
  | none =>
    have h0 := frames_none H hn
    subst h0
    have hl : F = [] := List.eq_nil_of_length_eq_zero hn
    subst hl
    clear hn H hm
    go_enter Tryz.func89, Tryz.ntmps89
    go_wp2
    go_ret
    exact ⟨_, rfl, FrmsO.nil _ _ _, Below.refl _ _⟩
  | some ad =>
    obtain ⟨ys, hy1, hy2, hy3, hy4, hy5⟩ := frames_cells H
    have hbA : Below w.heap.size w (w.alloc (.cells #[] 47)) := (Below.refl _ _).alloc (Nat.le_refl _) _
    have hys : ys.length = n * 2 := by rw [hy1, hn]
    have HNW := hid (show ∀ a', some ad = some a' → ∀ j u, ys[j]? = some u → (w.alloc (.cells #[] 47)).cell? (a'.add j) = some u from fun a' e j u hu => by
      have h1 := hy3 a' e j u hu
      obtain ⟨hlt, _⟩ := List.getElem?_eq_some_iff.1 hu
      have hp := hy5 (j / 2) (by omega)
      cases e
      have hF0 : 0 < F.length := by omega
      obtain ⟨b, off, _, _, _, e, hb, _⟩ := H 0 hF0
      cases e
      rw [Addr.add_lit] at h1 ⊢
      exact (hbA.cell (p := ⟨b, _, none⟩) hb).trans h1)
    have HEL := hid (elems_old (base := w.heap.size) hy2 (Nat.le_refl _) hbA)
    have HN := hid hn
    have HYS := hid hys
    have HY4 := hid hy4
    have HBA := hid hbA
    clear hn H hy1 hy2 hy3 hy4 hy5 hys hbA
    go_enter Tryz.func89, Tryz.ntmps89
    have M := World.ownsRow_made (base := w.heap.size) (e := 47) (size := 2) w #[] 0 (Nat.le_refl _) (Nat.zero_le _) rfl
    have HM := hid M
    clear M
    go_wp2_with (at_builtin; refine wpList_app _ rfl (.tmp 5) (.tmp 6) 37 rfl w.heap.size 47 (.agg #[.bool false, .slice none 0 0]) 2 32 Tryz.underlying37 info_frame rfl (by decide) (.slice (some ⟨w.heap.size, 0, none⟩) 0 0) 0 [] rfl HM.out (some ad) n cap ys rfl HYS.out no_none HNW.out HY4.out (by unfold maxLen; omega) (by omega) (by simp) ?_; intro a3 c3 w3 own3 g3; refine Stop.of ?_)
    refine Stop.go ?_
    have hfo : FrmsO w3 w.heap.size (fun _ => True) (.slice a3 n c3) ([] ++ F) := FrmsO.app (xs := []) (T := []) HM.out (fun j hj => by simp at hj) (by rw [HYS.out, HN.out]) HEL.out (Below.refl _ _) g3 (by rw [HN.out]; simpa using own3) (fun _ _ => trivial)
    rw [List.nil_append] at hfo
    have hB3 : Below w.heap.size w w3 := HBA.out.grown g3 HBA.out.size (fun k hk => (HM.out.lt k hk).1)
    have HFO := hid hfo
    have HB3 := hid hB3
    clear hfo hB3 own3 g3
    go_wp2
    go_ret
    exact ⟨_, rfl, HFO.out, HB3.out⟩

end Go.Proofs.YtkmjeegnijohmaaGreat

namespace Go.Proofs.YtkmjeegnijohmaaGreat
open Go.RowKit
set_option linter.unusedVariables false

theorem s8Ints_c (w : World) (a a2 : Option Addr) (n cap n2 cap2 : Nat) (l l2 : List Int) (hn : l.length = n) (hn2 : l2.length = n2) (hm : n ≤ maxLen) (hm2 : n2 ≤ maxLen) (H : IntsAt w a l) (H2 : IntsAt w a2 l2) :
    Calls Tryz.prog 22 #[.slice a n cap, .slice a2 n2 cap2] w fun e w' => e = .returned (.bool (decide (l = l2))) ∧ ∃ k, w' = w.drewN k := by
  have HN := hid hn
  have HN2 := hid hn2
  have HH := hid H
  have HH2 := hid H2
  clear hn hn2 H H2
  unfold maxLen at hm hm2
  by_cases hl : n = n2
  · have hd : ((n : Int) != (n2 : Int)) = false := by simp [hl]
    have HL := hid hl
    clear hl
    go_enter Tryz.func22, Tryz.ntmps22
    go_wp2
    go_loopw [13] (fun i wr => ∃ k : Nat, k ≤ n ∧ i = .int .i64 k ∧ (∃ q, wr = w.drewN q) ∧ ∀ j (hj : j < l.length) (hj2 : j < l2.length), j < k → l[j] = l2[j]) (fun i _ => n - (intOf i).toNat)
    case atStart => exact ⟨0, Nat.zero_le _, rfl, ⟨0, rfl⟩, fun i _ _ h => by omega⟩
    case round =>
      obtain ⟨k, hk, rfl, ⟨q, rfl⟩, hno⟩ := hrel
      have HNO := hid hno
      clear hno
      by_cases hlt : k < n
      · have hkl : k < l.length := by rw [HN.out]; exact hlt
        have hkl2 : k < l2.length := by rw [HN2.out, ← HL.out]; exact hlt
        obtain ⟨b, off, rfl, hbs, hc⟩ := HH.out k hkl
        obtain ⟨b2, off2, rfl, hbs2, hc2⟩ := HH2.out k hkl2
        have hg : l[k]?.getD 0 = l[k] := by rw [List.getElem?_eq_getElem hkl]; rfl
        have hg2 : l2[k]?.getD 0 = l2[k] := by rw [List.getElem?_eq_getElem hkl2]; rfl
        rw [hg] at hc
        rw [hg2] at hc2
        have hlt2 : k < n2 := by have := HL.out; omega
        have HKL := hid hkl
        have HKL2 := hid hkl2
        clear hg hg2
        by_cases he : l[k] = l2[k]
        · have hb : (l[k] != l2[k]) = false := by simp [he]
          have HE := hid he
          clear he
          go_wp2
          go_quiet (fail)
          go_wp2
          refine ⟨⟨k + 1, by omega, by go_num, ⟨_, rfl⟩, fun j hj hj2 hjk => ?_⟩, by simp [intOf]; omega⟩
          by_cases e : j = k
          · subst e; exact HE.out
          · exact HNO.out j hj hj2 (by omega)
        · have hb : (l[k] != l2[k]) = true := by simp [he]
          have HE := hid he
          clear he
          go_wp2
          go_quiet (fail)
          go_wp2
          go_ret
          refine ⟨ret_bool ?_, q + nq, drewN_add _ _ _⟩
          symm
          rw [decide_eq_false_iff_not]
          rintro rfl
          exact HE.out rfl
      · go_wp2
        go_ret
        refine ⟨ret_bool ?_, _, rfl⟩
        symm
        rw [decide_eq_true_iff]
        have h1 := HN.out
        have h2 := HN2.out
        have h3 := HL.out
        exact List.ext_getElem (by omega) fun i g1 g2 => HNO.out i g1 g2 (by omega)
  · have hd : ((n : Int) != (n2 : Int)) = true := by simp; omega
    have HL := hid hl
    clear hl
    go_enter Tryz.func22, Tryz.ntmps22
    go_wp2
    go_ret
    refine ⟨ret_bool ?_, 0, rfl⟩
    symm
    rw [decide_eq_false_iff_not]
    rintro rfl
    exact HL.out (HN.out.symm.trans HN2.out)

set_option maxHeartbeats 2000000 in
theorem s8Frames_c (w : World) (a a2 : Option Addr) (n cap n2 cap2 : Nat) (A B : List Frm) (hn : A.length = n) (hn2 : B.length = n2) (hm : n ≤ maxLen) (hm2 : n2 ≤ maxLen) (H : FramesAt w a A) (H2 : FramesAt w a2 B) :
    Calls Tryz.prog 29 #[.slice a n cap, .slice a2 n2 cap2] w fun e w' => e = .returned (.bool (decide (A = B))) ∧ ∃ k, w' = w.drewN k := by
  have HN := hid hn
  have HN2 := hid hn2
  have HH := hid H
  have HH2 := hid H2
  clear hn hn2 H H2
  unfold maxLen at hm hm2
  by_cases hl : n = n2
  · have hd : ((n : Int) != (n2 : Int)) = false := by simp [hl]
    have HL := hid hl
    clear hl
    go_enter Tryz.func29, Tryz.ntmps29
    go_wp2
    go_loopw [13] (fun i wr => ∃ k : Nat, k ≤ n ∧ i = .int .i64 k ∧ (∃ q, wr = w.drewN q) ∧ ∀ j (hj : j < A.length) (hj2 : j < B.length), j < k → A[j] = B[j]) (fun i _ => n - (intOf i).toNat)
    case atStart => exact ⟨0, Nat.zero_le _, rfl, ⟨0, rfl⟩, fun i _ _ h => by omega⟩
    case round =>
      obtain ⟨k, hk, rfl, hq, hno⟩ := hrel
      have hbw : Below w.heap.size w wr := by obtain ⟨q, rfl⟩ := hq; exact below_drewN (Below.refl _ _) q
      have HQ := hid hq
      have HNO := hid hno
      clear hno hq
      by_cases hlt : k < n
      · have hkl : k < A.length := by rw [HN.out]; exact hlt
        have hkl2 : k < B.length := by rw [HN2.out, ← HL.out]; exact hlt
        obtain ⟨b, off, ra, rn, rc, rfl, hbs, hc0, hc, hrn, hrm, hri⟩ := (HH.out.below hbw) k hkl
        obtain ⟨b', off', ra', rn', rc', rfl, hbs', hc0', hc', hrn', hrm', hri'⟩ := (HH2.out.below hbw) k hkl2
        obtain ⟨⟨p, x⟩, hp⟩ : ∃ r, r = A[k]'hkl := ⟨_, rfl⟩
        obtain ⟨⟨q, y⟩, hq⟩ : ∃ r, r = B[k]'hkl2 := ⟨_, rfl⟩
        rw [← hp] at hc0 hrn hri
        rw [← hq] at hc0' hrn' hri'
        simp only [] at hc0 hrn hri hc0' hrn' hri'
        have HI := hid (fun q2 => s8Ints_c (wr.drewN q2) ra ra' rn rc rn' rc' x y hrn hrn' hrm hrm' (hri.below (below_drewN (Below.refl _ _) q2)) (hri'.below (below_drewN (Below.refl _ _) q2)))
        have hlt2 : k < n2 := by have := HL.out; omega
        have HKL := hid hkl
        have HKL2 := hid hkl2
        have HP := hid hp
        have HQQ := hid hq
        clear hri hri' hrn hrn' hp hq
        by_cases hpq : p = q
        · have hb : (!(p == q)) = false := by simp [hpq]
          have HPQ := hid hpq
          clear hpq
          by_cases he : x = y
          · have HE := hid he
            have HS := hid (fun q2 => (HI.out q2).mono fun e w' ⟨h1, h2⟩ => show e = Ending.returned (.bool true) ∧ ∃ k, w' = (wr.drewN q2).drewN k from ⟨h1.trans (ret_bool (decide_eq_true he)), h2⟩)
            clear he HI
            go_wp2
            go_quiet ((go_at_call 22; exact Calls.quiet_of (HS.out _)))
            go_wp2
            refine ⟨⟨k + 1, by omega, by go_num, (by obtain ⟨q, e⟩ := HQ.out; exact ⟨_, by rw [e, drewN_add]⟩), fun j hj hj2 hjk => ?_⟩, by simp [intOf]; omega⟩
            by_cases e : j = k
            · subst e; exact HP.out.symm.trans ((Prod.ext HPQ.out HE.out).trans HQQ.out)
            · exact HNO.out j hj hj2 (by omega)
          · have HE := hid he
            have HS := hid (fun q2 => (HI.out q2).mono fun e w' ⟨h1, h2⟩ => show e = Ending.returned (.bool false) ∧ ∃ k, w' = (wr.drewN q2).drewN k from ⟨h1.trans (ret_bool (decide_eq_false he)), h2⟩)
            clear he HI
            go_wp2
            go_quiet ((go_at_call 22; exact Calls.quiet_of (HS.out _)))
            go_wp2
            go_ret
            refine ⟨ret_bool ?_, (by obtain ⟨q, e⟩ := HQ.out; exact ⟨_, by rw [e, drewN_add]⟩)⟩
            symm
            rw [decide_eq_false_iff_not]
            intro h
            subst h
            exact HE.out (congrArg Prod.snd (HP.out.trans HQQ.out.symm))
        · have hb : (!(p == q)) = true := by simp [hpq]
          have HPQ := hid hpq
          clear hpq HI
          go_wp2
          go_quiet (fail)
          go_wp2
          go_ret
          refine ⟨ret_bool ?_, (by obtain ⟨q, e⟩ := HQ.out; exact ⟨_, by rw [e, drewN_add]⟩)⟩
          symm
          rw [decide_eq_false_iff_not]
          intro h
          subst h
          exact HPQ.out (congrArg Prod.fst (HP.out.trans HQQ.out.symm))
      · go_wp2
        go_ret
        refine ⟨ret_bool ?_, HQ.out⟩
        symm
        rw [decide_eq_true_iff]
        have h1 := HN.out
        have h2 := HN2.out
        have h3 := HL.out
        exact List.ext_getElem (by omega) fun i g1 g2 => HNO.out i g1 g2 (by omega)
  · have hd : ((n : Int) != (n2 : Int)) = true := by simp; omega
    have HL := hid hl
    clear hl
    go_enter Tryz.func29, Tryz.ntmps29
    go_wp2
    go_ret
    refine ⟨ret_bool ?_, 0, rfl⟩
    symm
    rw [decide_eq_false_iff_not]
    rintro rfl
    exact HL.out (HN.out.symm.trans HN2.out)

end Go.Proofs.YtkmjeegnijohmaaGreat

namespace Go.Proofs.YtkmjeegnijohmaaGreat
open Go.RowKit
set_option linter.unusedVariables false

set_option maxRecDepth 100000 in
set_option maxHeartbeats 2000000 in
theorem r8frame_c (w : World) (kf : Bool) (a2 a : Option Addr) (n2 cap2 n cap : Nat) (M : Mask) (l : List Int) (hn : M.length = n) (h1 : 1 ≤ n) (H : RowsAt w a M) (hn2 : l.length = n2) (hm2 : n2 ≤ maxLen) (H2 : IntsAt w a2 l) :
    Calls Tryz.prog 69 #[.slice a n cap, .agg #[.bool kf, .slice a2 n2 cap2]] w fun e w' => e = .returned (.bool (frB M (kf, l))) ∧ Below w.heap.size w w' := by
  obtain ⟨b, off, ra, rc, rfl, hb, hc⟩ := rows_head H (by omega)
  have i0 : (0 : Int) < (n : Int) := by omega
  have hbz : ∀ o : Obj, Below w.heap.size w (w.alloc o) := fun o => (Below.refl _ _).alloc (Nat.le_refl _) _
  have hcz : ∀ o : Obj, (w.alloc o).cell? ⟨b, off, none⟩ = some (.slice ra (colsM M) rc) := fun o => ((hbz o).cell (p := ⟨b, off, none⟩) hb).trans hc
  have HLP := hid (fun (o : Obj) q => r8list_c ((w.alloc o).drewN q) a2 n2 cap2 l hn2 hm2 (H2.below (below_drewN (hbz o) q)) (colsM M) 1000 (by omega) (by omega))
  have HLR := hid (fun (o : Obj) q => r8list_c ((w.alloc o).drewN q) a2 n2 cap2 l hn2 hm2 (H2.below (below_drewN (hbz o) q)) n 1000000 (by omega) (by omega))
  have hp1 : listB l (colsM M) 1000 = picB M l := listB_pic
  have hp2 : listB l n 1000000 = readB M l := by
    unfold listB readB milB
    congr 1
    rw [Bool.eq_iff_iff]; simp; omega
  have hp : frB M (kf, l) = (decide (n2 = 0) || (kf && picB M l) || (!kf && readB M l)) := by unfold frB readB; rw [hn2]
  rw [hp]
  rw [hp1] at HLP
  rw [hp2] at HLR
  have hd : ((n2 : Int) == 0) = decide (n2 = 0) := by rw [Bool.eq_iff_iff]; simp
  obtain ⟨D, hD⟩ : ∃ D, D = decide (n2 = 0) := ⟨_, rfl⟩
  obtain ⟨A, hA⟩ : ∃ A, A = picB M l := ⟨_, rfl⟩
  obtain ⟨R, hR⟩ : ∃ R, R = readB M l := ⟨_, rfl⟩
  obtain ⟨W, hW⟩ : ∃ W, W = colsM M := ⟨_, rfl⟩
  rw [← hD] at hd
  rw [← hA, ← hW] at HLP
  rw [← hR] at HLR
  rw [← hW] at hcz
  rw [← hD, ← hA, ← hR]
  have HBZ := hid hbz
  clear hp hp1 hp2 hD hA hR hW hn hn2 H H2 hc hbz
  cases D
  rotate_left
  ·
    have hb0 := HBZ.out (.cells #[.bool kf, .slice a2 n2 cap2] 47)
    have hc0 := hcz (.cells #[.bool kf, .slice a2 n2 cap2] 47)
    have hw0 : (w.alloc (.cells #[.bool kf, .slice a2 n2 cap2] 47)).heap[w.heap.size]? = some (.cells #[.bool kf, .slice a2 n2 cap2] 47 (0, 0)) := World.alloc_heap_new _ _
    have HLP0 := hid (fun q => HLP.out (.cells #[.bool kf, .slice a2 n2 cap2] 47) q)
    have HLR0 := hid (fun q => HLR.out (.cells #[.bool kf, .slice a2 n2 cap2] 47) q)
    clear hcz HLP HLR
    have HB0 := hid hb0
    have HC0 := hid hc0
    have HW0 := hid hw0
    clear hb0 hc0 hw0
    go_enter Tryz.func69, Tryz.ntmps69
    go_wp2
    refine plain_region (fun j w' => decide (j < 30) = true → w' = (w.alloc (.cells #[.bool kf, .slice a2 n2 cap2] 47)).drew) (by kernel_rfl) ?_
    have hb0 : Below w.heap.size w (w.alloc (.cells #[.bool kf, .slice a2 n2 cap2] 47)).drew := HB0.out.drew
    have hc0 : (w.alloc (.cells #[.bool kf, .slice a2 n2 cap2] 47)).drew.cell? ⟨b, off, none⟩ = some (.slice ra W rc) := HC0.out
    have hw0 : (w.alloc (.cells #[.bool kf, .slice a2 n2 cap2] 47)).drew.heap[w.heap.size]? = some (.cells #[.bool kf, .slice a2 n2 cap2] 47 (0, 0)) := HW0.out
    have HLP1 := hid (HLP0.out 1)
    have HLR1 := hid (HLR0.out 1)
    have e1 : (w.alloc (.cells #[.bool kf, .slice a2 n2 cap2] 47)).drewN 1 = (w.alloc (.cells #[.bool kf, .slice a2 n2 cap2] 47)).drew := rfl
    rw [e1] at HLP1 HLR1
    clear HLP0 HLR0 HB0 HC0 HW0 e1
    generalize (w.alloc (.cells #[.bool kf, .slice a2 n2 cap2] 47)).drew = wd at hb0 hc0 hw0 HLP1 HLR1 ⊢
    obtain ⟨q0, q1, _, _, _⟩ := box2_facts hw0
    have HB0 := hid hb0
    clear hb0 hw0
    refine AnyT.takeD (i := 0) (v := .pointer (some ⟨w.heap.size, 1, none⟩)) rfl rfl (by kernel_rfl) (by kernel_rfl) (by kernel_rfl) (by first | exact (fun _ _ _ h => h) | exact (fun _ _ _ h => absurd h.1 (by simp))) (by kernel_rfl) (by rfl) (by rintro w' rfl; go_simp) rfl ?_; go_frame
    refine AnyT.takeD (i := 1) (v := .slice a2 n2 cap2) rfl rfl (by kernel_rfl) (by kernel_rfl) (by kernel_rfl) (by first | exact (fun _ _ _ h => h) | exact (fun _ _ _ h => absurd h.1 (by simp))) (by kernel_rfl) (by rfl) (by rintro w' rfl; go_simp) rfl ?_; go_frame
    refine AnyT.takeD (i := 2) (v := .int .i64 n2) rfl rfl (by kernel_rfl) (by kernel_rfl) (by kernel_rfl) (by first | exact (fun _ _ _ h => h) | exact (fun _ _ _ h => absurd h.1 (by simp))) (by kernel_rfl) (by rfl) (by rintro w' rfl; go_simp) rfl ?_; go_frame
    refine AnyT.takeD (i := 3) (v := .bool true) rfl rfl (by kernel_rfl) (by kernel_rfl) (by kernel_rfl) (by first | exact (fun _ _ _ h => h) | exact (fun _ _ _ h => absurd h.1 (by simp))) (by kernel_rfl) (by rfl) (by rintro w' rfl; go_simp) rfl ?_; go_frame
    refine AnyT.takeD (i := 4) (v := .bool true) rfl rfl (by kernel_rfl) (by kernel_rfl) (by kernel_rfl) (by first | exact (fun _ _ _ h => h) | exact (fun _ _ _ h => absurd h.1 (by simp))) (by kernel_rfl) (by rfl) (by rintro w' rfl; go_simp) rfl ?_; go_frame
    refine AnyT.takeDN (i := 5) rfl rfl (by kernel_rfl) (by kernel_rfl) (by kernel_rfl) (by first | exact (fun _ _ _ h => h) | exact (fun _ _ _ h => absurd h.1 (by simp))) (by kernel_rfl) (by rfl) rfl ?_; go_frame
    refine AnyT.takeDN (i := 6) rfl rfl (by kernel_rfl) (by kernel_rfl) (by kernel_rfl) (by first | exact (fun _ _ _ h => h) | exact (fun _ _ _ h => absurd h.1 (by simp))) (by kernel_rfl) (by rfl) rfl ?_; go_frame
    refine AnyT.takeDN (i := 7) rfl rfl (by kernel_rfl) (by kernel_rfl) (by kernel_rfl) (by first | exact (fun _ _ _ h => h) | exact (fun _ _ _ h => absurd h.1 (by simp))) (by kernel_rfl) (by rfl) rfl ?_; go_frame
    refine AnyT.takeDN (i := 8) rfl rfl (by kernel_rfl) (by kernel_rfl) (by kernel_rfl) (by first | exact (fun _ _ _ h => h) | exact (fun _ _ _ h => absurd h.1 (by simp))) (by kernel_rfl) (by rfl) rfl ?_; go_frame
    refine AnyT.takeDN (i := 9) rfl rfl (by kernel_rfl) (by kernel_rfl) (by kernel_rfl) (by first | exact (fun _ _ _ h => h) | exact (fun _ _ _ h => absurd h.1 (by simp))) (by kernel_rfl) (by rfl) rfl ?_; go_frame
    refine AnyT.takeDN (i := 10) rfl rfl (by kernel_rfl) (by kernel_rfl) (by kernel_rfl) (by first | exact (fun _ _ _ h => h) | exact (fun _ _ _ h => absurd h.1 (by simp))) (by kernel_rfl) (by rfl) rfl ?_; go_frame
    refine AnyT.takeDN (i := 11) rfl rfl (by kernel_rfl) (by kernel_rfl) (by kernel_rfl) (by first | exact (fun _ _ _ h => h) | exact (fun _ _ _ h => absurd h.1 (by simp))) (by kernel_rfl) (by rfl) rfl ?_; go_frame
    refine AnyT.takeDN (i := 12) rfl rfl (by kernel_rfl) (by kernel_rfl) (by kernel_rfl) (by first | exact (fun _ _ _ h => h) | exact (fun _ _ _ h => absurd h.1 (by simp))) (by kernel_rfl) (by rfl) rfl ?_; go_frame
    refine AnyT.takeDN (i := 13) rfl rfl (by kernel_rfl) (by kernel_rfl) (by kernel_rfl) (by first | exact (fun _ _ _ h => h) | exact (fun _ _ _ h => absurd h.1 (by simp))) (by kernel_rfl) (by rfl) rfl ?_; go_frame
    refine AnyT.takeDN (i := 14) rfl rfl (by kernel_rfl) (by kernel_rfl) (by kernel_rfl) (by first | exact (fun _ _ _ h => h) | exact (fun _ _ _ h => absurd h.1 (by simp))) (by kernel_rfl) (by rfl) rfl ?_; go_frame
    refine AnyT.takeDN (i := 15) rfl rfl (by kernel_rfl) (by kernel_rfl) (by kernel_rfl) (by first | exact (fun _ _ _ h => h) | exact (fun _ _ _ h => absurd h.1 (by simp))) (by kernel_rfl) (by rfl) rfl ?_; go_frame
    refine AnyT.takeD (i := 16) (v := .bool true) rfl rfl (by kernel_rfl) (by kernel_rfl) (by kernel_rfl) (by first | exact (fun _ _ _ h => h) | exact (fun _ _ _ h => absurd h.1 (by simp))) (by kernel_rfl) (by rfl) (by rintro w' rfl; go_simp) rfl ?_; go_frame
    refine AnyT.takeD (i := 17) (v := .bool true) rfl rfl (by kernel_rfl) (by kernel_rfl) (by kernel_rfl) (by first | exact (fun _ _ _ h => h) | exact (fun _ _ _ h => absurd h.1 (by simp))) (by kernel_rfl) (by rfl) (by rintro w' rfl; go_simp) rfl ?_; go_frame
    refine AnyT.takeDN (i := 18) rfl rfl (by kernel_rfl) (by kernel_rfl) (by kernel_rfl) (by first | exact (fun _ _ _ h => h) | exact (fun _ _ _ h => absurd h.1 (by simp))) (by kernel_rfl) (by rfl) rfl ?_; go_frame
    refine AnyT.takeDN (i := 19) rfl rfl (by kernel_rfl) (by kernel_rfl) (by kernel_rfl) (by first | exact (fun _ _ _ h => h) | exact (fun _ _ _ h => absurd h.1 (by simp))) (by kernel_rfl) (by rfl) rfl ?_; go_frame
    refine AnyT.takeDN (i := 20) rfl rfl (by kernel_rfl) (by kernel_rfl) (by kernel_rfl) (by first | exact (fun _ _ _ h => h) | exact (fun _ _ _ h => absurd h.1 (by simp))) (by kernel_rfl) (by rfl) rfl ?_; go_frame
    refine AnyT.takeDN (i := 21) rfl rfl (by kernel_rfl) (by kernel_rfl) (by kernel_rfl) (by first | exact (fun _ _ _ h => h) | exact (fun _ _ _ h => absurd h.1 (by simp))) (by kernel_rfl) (by rfl) rfl ?_; go_frame
    refine AnyT.takeDN (i := 22) rfl rfl (by kernel_rfl) (by kernel_rfl) (by kernel_rfl) (by first | exact (fun _ _ _ h => h) | exact (fun _ _ _ h => absurd h.1 (by simp))) (by kernel_rfl) (by rfl) rfl ?_; go_frame
    refine AnyT.takeDN (i := 23) rfl rfl (by kernel_rfl) (by kernel_rfl) (by kernel_rfl) (by first | exact (fun _ _ _ h => h) | exact (fun _ _ _ h => absurd h.1 (by simp))) (by kernel_rfl) (by rfl) rfl ?_; go_frame
    refine AnyT.takeDN (i := 24) rfl rfl (by kernel_rfl) (by kernel_rfl) (by kernel_rfl) (by first | exact (fun _ _ _ h => h) | exact (fun _ _ _ h => absurd h.1 (by simp))) (by kernel_rfl) (by rfl) rfl ?_; go_frame
    refine AnyT.takeDN (i := 25) rfl rfl (by kernel_rfl) (by kernel_rfl) (by kernel_rfl) (by first | exact (fun _ _ _ h => h) | exact (fun _ _ _ h => absurd h.1 (by simp))) (by kernel_rfl) (by rfl) rfl ?_; go_frame
    refine AnyT.takeDN (i := 26) rfl rfl (by kernel_rfl) (by kernel_rfl) (by kernel_rfl) (by first | exact (fun _ _ _ h => h) | exact (fun _ _ _ h => absurd h.1 (by simp))) (by kernel_rfl) (by rfl) rfl ?_; go_frame
    refine AnyT.takeDN (i := 27) rfl rfl (by kernel_rfl) (by kernel_rfl) (by kernel_rfl) (by first | exact (fun _ _ _ h => h) | exact (fun _ _ _ h => absurd h.1 (by simp))) (by kernel_rfl) (by rfl) rfl ?_; go_frame
    refine AnyT.takeD (i := 28) (v := .bool true) rfl rfl (by kernel_rfl) (by kernel_rfl) (by kernel_rfl) (by first | exact (fun _ _ _ h => h) | exact (fun _ _ _ h => absurd h.1 (by simp))) (by kernel_rfl) (by rfl) (by rintro w' rfl; go_simp) rfl ?_; go_frame
    refine AnyT.takeD (i := 29) (v := .bool true) rfl rfl (by kernel_rfl) (by kernel_rfl) (by kernel_rfl) (by first | exact (fun _ _ _ h => h) | exact (fun _ _ _ h => absurd h.1 (by simp))) (by kernel_rfl) (by rfl) (by rintro w' rfl; go_simp) rfl ?_; go_frame
    refine ⟨by kernel_rfl, ?_⟩
    go_wp2
    go_ret
    exact ⟨by simp, HB0.out⟩
  · cases kf
    rotate_left
    ·
      have hb0 := HBZ.out (.cells #[.bool true, .slice a2 n2 cap2] 47)
      have hc0 := hcz (.cells #[.bool true, .slice a2 n2 cap2] 47)
      have hw0 : (w.alloc (.cells #[.bool true, .slice a2 n2 cap2] 47)).heap[w.heap.size]? = some (.cells #[.bool true, .slice a2 n2 cap2] 47 (0, 0)) := World.alloc_heap_new _ _
      have HLP0 := hid (fun q => HLP.out (.cells #[.bool true, .slice a2 n2 cap2] 47) q)
      have HLR0 := hid (fun q => HLR.out (.cells #[.bool true, .slice a2 n2 cap2] 47) q)
      clear hcz HLP HLR
      have HB0 := hid hb0
      have HC0 := hid hc0
      have HW0 := hid hw0
      clear hb0 hc0 hw0
      go_enter Tryz.func69, Tryz.ntmps69
      go_wp2
      refine plain_region (fun j w' => decide (j < 30) = true → w' = (w.alloc (.cells #[.bool true, .slice a2 n2 cap2] 47)).drew) (by kernel_rfl) ?_
      have hb0 : Below w.heap.size w (w.alloc (.cells #[.bool true, .slice a2 n2 cap2] 47)).drew := HB0.out.drew
      have hc0 : (w.alloc (.cells #[.bool true, .slice a2 n2 cap2] 47)).drew.cell? ⟨b, off, none⟩ = some (.slice ra W rc) := HC0.out
      have hw0 : (w.alloc (.cells #[.bool true, .slice a2 n2 cap2] 47)).drew.heap[w.heap.size]? = some (.cells #[.bool true, .slice a2 n2 cap2] 47 (0, 0)) := HW0.out
      have HLP1 := hid (HLP0.out 1)
      have HLR1 := hid (HLR0.out 1)
      have e1 : (w.alloc (.cells #[.bool true, .slice a2 n2 cap2] 47)).drewN 1 = (w.alloc (.cells #[.bool true, .slice a2 n2 cap2] 47)).drew := rfl
      rw [e1] at HLP1 HLR1
      clear HLP0 HLR0 HB0 HC0 HW0 e1
      generalize (w.alloc (.cells #[.bool true, .slice a2 n2 cap2] 47)).drew = wd at hb0 hc0 hw0 HLP1 HLR1 ⊢
      obtain ⟨q0, q1, _, _, _⟩ := box2_facts hw0
      have HB0 := hid hb0
      clear hb0 hw0
      refine AnyT.takeD (i := 0) (v := .pointer (some ⟨w.heap.size, 1, none⟩)) rfl rfl (by kernel_rfl) (by kernel_rfl) (by kernel_rfl) (by first | exact (fun _ _ _ h => h) | exact (fun _ _ _ h => absurd h.1 (by simp))) (by kernel_rfl) (by rfl) (by rintro w' rfl; go_simp) rfl ?_; go_frame
      refine AnyT.takeD (i := 1) (v := .slice a2 n2 cap2) rfl rfl (by kernel_rfl) (by kernel_rfl) (by kernel_rfl) (by first | exact (fun _ _ _ h => h) | exact (fun _ _ _ h => absurd h.1 (by simp))) (by kernel_rfl) (by rfl) (by rintro w' rfl; go_simp) rfl ?_; go_frame
      refine AnyT.takeD (i := 2) (v := .int .i64 n2) rfl rfl (by kernel_rfl) (by kernel_rfl) (by kernel_rfl) (by first | exact (fun _ _ _ h => h) | exact (fun _ _ _ h => absurd h.1 (by simp))) (by kernel_rfl) (by rfl) (by rintro w' rfl; go_simp) rfl ?_; go_frame
      refine AnyT.takeD (i := 3) (v := .bool false) rfl rfl (by kernel_rfl) (by kernel_rfl) (by kernel_rfl) (by first | exact (fun _ _ _ h => h) | exact (fun _ _ _ h => absurd h.1 (by simp))) (by kernel_rfl) (by rfl) (by rintro w' rfl; go_simp) rfl ?_; go_frame
      refine AnyT.takeD (i := 4) (v := .bool false) rfl rfl (by kernel_rfl) (by kernel_rfl) (by kernel_rfl) (by first | exact (fun _ _ _ h => h) | exact (fun _ _ _ h => absurd h.1 (by simp))) (by kernel_rfl) (by rfl) (by rintro w' rfl; go_simp) rfl ?_; go_frame
      refine AnyT.takeD (i := 5) (v := .pointer (some ⟨w.heap.size, 0, none⟩)) rfl rfl (by kernel_rfl) (by kernel_rfl) (by kernel_rfl) (by first | exact (fun _ _ _ h => h) | exact (fun _ _ _ h => absurd h.1 (by simp))) (by kernel_rfl) (by rfl) (by rintro w' rfl; go_simp) rfl ?_; go_frame
      refine AnyT.takeD (i := 6) (v := .bool true) rfl rfl (by kernel_rfl) (by kernel_rfl) (by kernel_rfl) (by first | exact (fun _ _ _ h => h) | exact (fun _ _ _ h => absurd h.1 (by simp))) (by kernel_rfl) (by rfl) (by rintro w' rfl; go_simp) rfl ?_; go_frame
      refine AnyT.takeD (i := 7) (v := .bool true) rfl rfl (by kernel_rfl) (by kernel_rfl) (by kernel_rfl) (by first | exact (fun _ _ _ h => h) | exact (fun _ _ _ h => absurd h.1 (by simp))) (by kernel_rfl) (by rfl) (by rintro w' rfl; go_simp) rfl ?_; go_frame
      refine AnyT.takeD (i := 8) (v := .pointer (some ⟨w.heap.size, 1, none⟩)) rfl rfl (by kernel_rfl) (by kernel_rfl) (by kernel_rfl) (by first | exact (fun _ _ _ h => h) | exact (fun _ _ _ h => absurd h.1 (by simp))) (by kernel_rfl) (by rfl) (by rintro w' rfl; go_simp) rfl ?_; go_frame
      refine AnyT.takeD (i := 9) (v := .slice a2 n2 cap2) rfl rfl (by kernel_rfl) (by kernel_rfl) (by kernel_rfl) (by first | exact (fun _ _ _ h => h) | exact (fun _ _ _ h => absurd h.1 (by simp))) (by kernel_rfl) (by rfl) (by rintro w' rfl; go_simp) rfl ?_; go_frame
      refine AnyT.takeD (i := 10) (v := .slice (some ⟨b, off, none⟩) n cap) rfl rfl (by kernel_rfl) (by kernel_rfl) (by kernel_rfl) (by first | exact (fun _ _ _ h => h) | exact (fun _ _ _ h => absurd h.1 (by simp))) (by kernel_rfl) (by rfl) (by rintro w' rfl; go_simp) rfl ?_; go_frame
      refine AnyT.takeD (i := 11) (v := .pointer (some ⟨b, off, none⟩)) rfl rfl (by kernel_rfl) (by kernel_rfl) (by kernel_rfl) (by first | exact (fun _ _ _ h => h) | exact (fun _ _ _ h => absurd h.1 (by simp))) (by kernel_rfl) (by rfl) (by rintro w' rfl; go_simp; intro h; exact absurd h (by omega)) rfl ?_; go_frame
      refine AnyT.takeD (i := 12) (v := .slice ra W rc) rfl rfl (by kernel_rfl) (by kernel_rfl) (by kernel_rfl) (by first | exact (fun _ _ _ h => h) | exact (fun _ _ _ h => absurd h.1 (by simp))) (by kernel_rfl) (by rfl) (by rintro w' rfl; go_simp) rfl ?_; go_frame
      refine AnyT.takeD (i := 13) (v := .int .i64 W) rfl rfl (by kernel_rfl) (by kernel_rfl) (by kernel_rfl) (by first | exact (fun _ _ _ h => h) | exact (fun _ _ _ h => absurd h.1 (by simp))) (by kernel_rfl) (by rfl) (by rintro w' rfl; go_simp) rfl ?_; go_frame
      refine AnyT.next (i := 14) (by kernel_rfl) rfl (wpOp_of_list rfl ?_)
      go_wp2_with (go_at_call 58; refine HLP1.out.mono ?_; rintro e w1 ⟨rfl, rfl⟩)
      refine ⟨fun _ => rfl, ?_⟩
      refine AnyT.takeD (i := 15) (v := .bool A) rfl rfl (by kernel_rfl) (by kernel_rfl) (by kernel_rfl) (by first | exact (fun _ _ _ h => h) | exact (fun _ _ _ h => absurd h.1 (by simp))) (by kernel_rfl) (by rfl) (by rintro w' rfl; go_simp) rfl ?_; go_frame
      refine AnyT.takeD (i := 16) (v := .bool A) rfl rfl (by kernel_rfl) (by kernel_rfl) (by kernel_rfl) (by first | exact (fun _ _ _ h => h) | exact (fun _ _ _ h => absurd h.1 (by simp))) (by kernel_rfl) (by rfl) (by rintro w' rfl; go_simp) rfl ?_; go_frame
      refine AnyT.takeD (i := 17) (v := .bool A) rfl rfl (by kernel_rfl) (by kernel_rfl) (by kernel_rfl) (by first | exact (fun _ _ _ h => h) | exact (fun _ _ _ h => absurd h.1 (by simp))) (by kernel_rfl) (by rfl) (by rintro w' rfl; go_simp) rfl ?_; go_frame
      cases A
      rotate_left
      ·
        refine AnyT.takeDN (i := 18) rfl rfl (by kernel_rfl) (by kernel_rfl) (by kernel_rfl) (by first | exact (fun _ _ _ h => h) | exact (fun _ _ _ h => absurd h.1 (by simp))) (by kernel_rfl) (by rfl) rfl ?_; go_frame
        refine AnyT.takeDN (i := 19) rfl rfl (by kernel_rfl) (by kernel_rfl) (by kernel_rfl) (by first | exact (fun _ _ _ h => h) | exact (fun _ _ _ h => absurd h.1 (by simp))) (by kernel_rfl) (by rfl) rfl ?_; go_frame
        refine AnyT.takeDN (i := 20) rfl rfl (by kernel_rfl) (by kernel_rfl) (by kernel_rfl) (by first | exact (fun _ _ _ h => h) | exact (fun _ _ _ h => absurd h.1 (by simp))) (by kernel_rfl) (by rfl) rfl ?_; go_frame
        refine AnyT.takeDN (i := 21) rfl rfl (by kernel_rfl) (by kernel_rfl) (by kernel_rfl) (by first | exact (fun _ _ _ h => h) | exact (fun _ _ _ h => absurd h.1 (by simp))) (by kernel_rfl) (by rfl) rfl ?_; go_frame
        refine AnyT.takeDN (i := 22) rfl rfl (by kernel_rfl) (by kernel_rfl) (by kernel_rfl) (by first | exact (fun _ _ _ h => h) | exact (fun _ _ _ h => absurd h.1 (by simp))) (by kernel_rfl) (by rfl) rfl ?_; go_frame
        refine AnyT.takeDN (i := 23) rfl rfl (by kernel_rfl) (by kernel_rfl) (by kernel_rfl) (by first | exact (fun _ _ _ h => h) | exact (fun _ _ _ h => absurd h.1 (by simp))) (by kernel_rfl) (by rfl) rfl ?_; go_frame
        refine AnyT.takeDN (i := 24) rfl rfl (by kernel_rfl) (by kernel_rfl) (by kernel_rfl) (by first | exact (fun _ _ _ h => h) | exact (fun _ _ _ h => absurd h.1 (by simp))) (by kernel_rfl) (by rfl) rfl ?_; go_frame
        refine AnyT.takeDN (i := 25) rfl rfl (by kernel_rfl) (by kernel_rfl) (by kernel_rfl) (by first | exact (fun _ _ _ h => h) | exact (fun _ _ _ h => absurd h.1 (by simp))) (by kernel_rfl) (by rfl) rfl ?_; go_frame
        refine AnyT.takeDN (i := 26) rfl rfl (by kernel_rfl) (by kernel_rfl) (by kernel_rfl) (by first | exact (fun _ _ _ h => h) | exact (fun _ _ _ h => absurd h.1 (by simp))) (by kernel_rfl) (by rfl) rfl ?_; go_frame
        refine AnyT.takeDN (i := 27) rfl rfl (by kernel_rfl) (by kernel_rfl) (by kernel_rfl) (by first | exact (fun _ _ _ h => h) | exact (fun _ _ _ h => absurd h.1 (by simp))) (by kernel_rfl) (by rfl) rfl ?_; go_frame
        refine AnyT.takeD (i := 28) (v := .bool true) rfl rfl (by kernel_rfl) (by kernel_rfl) (by kernel_rfl) (by first | exact (fun _ _ _ h => h) | exact (fun _ _ _ h => absurd h.1 (by simp))) (by kernel_rfl) (by rfl) (by rintro w' rfl; go_simp) rfl ?_; go_frame
        refine AnyT.takeD (i := 29) (v := .bool true) rfl rfl (by kernel_rfl) (by kernel_rfl) (by kernel_rfl) (by first | exact (fun _ _ _ h => h) | exact (fun _ _ _ h => absurd h.1 (by simp))) (by kernel_rfl) (by rfl) (by rintro w' rfl; go_simp) rfl ?_; go_frame
        refine ⟨by kernel_rfl, ?_⟩
        go_wp2
        go_ret
        exact ⟨by simp, HB0.out⟩
      ·
        refine AnyT.takeD (i := 18) (v := .pointer (some ⟨w.heap.size, 0, none⟩)) rfl rfl (by kernel_rfl) (by kernel_rfl) (by kernel_rfl) (by first | exact (fun _ _ _ h => h) | exact (fun _ _ _ h => absurd h.1 (by simp))) (by kernel_rfl) (by rfl) (by rintro w' rfl; go_simp) rfl ?_; go_frame
        refine AnyT.takeD (i := 19) (v := .bool true) rfl rfl (by kernel_rfl) (by kernel_rfl) (by kernel_rfl) (by first | exact (fun _ _ _ h => h) | exact (fun _ _ _ h => absurd h.1 (by simp))) (by kernel_rfl) (by rfl) (by rintro w' rfl; go_simp) rfl ?_; go_frame
        refine AnyT.takeD (i := 20) (v := .bool false) rfl rfl (by kernel_rfl) (by kernel_rfl) (by kernel_rfl) (by first | exact (fun _ _ _ h => h) | exact (fun _ _ _ h => absurd h.1 (by simp))) (by kernel_rfl) (by rfl) (by rintro w' rfl; go_simp) rfl ?_; go_frame
        refine AnyT.takeD (i := 21) (v := .bool false) rfl rfl (by kernel_rfl) (by kernel_rfl) (by kernel_rfl) (by first | exact (fun _ _ _ h => h) | exact (fun _ _ _ h => absurd h.1 (by simp))) (by kernel_rfl) (by rfl) (by rintro w' rfl; go_simp) rfl ?_; go_frame
        refine AnyT.takeDN (i := 22) rfl rfl (by kernel_rfl) (by kernel_rfl) (by kernel_rfl) (by first | exact (fun _ _ _ h => h) | exact (fun _ _ _ h => absurd h.1 (by simp))) (by kernel_rfl) (by rfl) rfl ?_; go_frame
        refine AnyT.takeDN (i := 23) rfl rfl (by kernel_rfl) (by kernel_rfl) (by kernel_rfl) (by first | exact (fun _ _ _ h => h) | exact (fun _ _ _ h => absurd h.1 (by simp))) (by kernel_rfl) (by rfl) rfl ?_; go_frame
        refine AnyT.takeDN (i := 24) rfl rfl (by kernel_rfl) (by kernel_rfl) (by kernel_rfl) (by first | exact (fun _ _ _ h => h) | exact (fun _ _ _ h => absurd h.1 (by simp))) (by kernel_rfl) (by rfl) rfl ?_; go_frame
        refine AnyT.takeDN (i := 25) rfl rfl (by kernel_rfl) (by kernel_rfl) (by kernel_rfl) (by first | exact (fun _ _ _ h => h) | exact (fun _ _ _ h => absurd h.1 (by simp))) (by kernel_rfl) (by rfl) rfl ?_; go_frame
        refine AnyT.takeDN (i := 26) rfl rfl (by kernel_rfl) (by kernel_rfl) (by kernel_rfl) (by first | exact (fun _ _ _ h => h) | exact (fun _ _ _ h => absurd h.1 (by simp))) (by kernel_rfl) (by rfl) rfl ?_; go_frame
        refine AnyT.takeD (i := 27) (v := .bool false) rfl rfl (by kernel_rfl) (by kernel_rfl) (by kernel_rfl) (by first | exact (fun _ _ _ h => h) | exact (fun _ _ _ h => absurd h.1 (by simp))) (by kernel_rfl) (by rfl) (by rintro w' rfl; go_simp) rfl ?_; go_frame
        refine AnyT.takeD (i := 28) (v := .bool false) rfl rfl (by kernel_rfl) (by kernel_rfl) (by kernel_rfl) (by first | exact (fun _ _ _ h => h) | exact (fun _ _ _ h => absurd h.1 (by simp))) (by kernel_rfl) (by rfl) (by rintro w' rfl; go_simp) rfl ?_; go_frame
        refine AnyT.takeD (i := 29) (v := .bool false) rfl rfl (by kernel_rfl) (by kernel_rfl) (by kernel_rfl) (by first | exact (fun _ _ _ h => h) | exact (fun _ _ _ h => absurd h.1 (by simp))) (by kernel_rfl) (by rfl) (by rintro w' rfl; go_simp) rfl ?_; go_frame
        refine ⟨by kernel_rfl, ?_⟩
        go_wp2
        go_ret
        exact ⟨by simp, HB0.out⟩
    ·
      have hb0 := HBZ.out (.cells #[.bool false, .slice a2 n2 cap2] 47)
      have hc0 := hcz (.cells #[.bool false, .slice a2 n2 cap2] 47)
      have hw0 : (w.alloc (.cells #[.bool false, .slice a2 n2 cap2] 47)).heap[w.heap.size]? = some (.cells #[.bool false, .slice a2 n2 cap2] 47 (0, 0)) := World.alloc_heap_new _ _
      have HLP0 := hid (fun q => HLP.out (.cells #[.bool false, .slice a2 n2 cap2] 47) q)
      have HLR0 := hid (fun q => HLR.out (.cells #[.bool false, .slice a2 n2 cap2] 47) q)
      clear hcz HLP HLR
      have HB0 := hid hb0
      have HC0 := hid hc0
      have HW0 := hid hw0
      clear hb0 hc0 hw0
      go_enter Tryz.func69, Tryz.ntmps69
      go_wp2
      refine plain_region (fun j w' => decide (j < 30) = true → w' = (w.alloc (.cells #[.bool false, .slice a2 n2 cap2] 47)).drew) (by kernel_rfl) ?_
      have hb0 : Below w.heap.size w (w.alloc (.cells #[.bool false, .slice a2 n2 cap2] 47)).drew := HB0.out.drew
      have hc0 : (w.alloc (.cells #[.bool false, .slice a2 n2 cap2] 47)).drew.cell? ⟨b, off, none⟩ = some (.slice ra W rc) := HC0.out
      have hw0 : (w.alloc (.cells #[.bool false, .slice a2 n2 cap2] 47)).drew.heap[w.heap.size]? = some (.cells #[.bool false, .slice a2 n2 cap2] 47 (0, 0)) := HW0.out
      have HLP1 := hid (HLP0.out 1)
      have HLR1 := hid (HLR0.out 1)
      have e1 : (w.alloc (.cells #[.bool false, .slice a2 n2 cap2] 47)).drewN 1 = (w.alloc (.cells #[.bool false, .slice a2 n2 cap2] 47)).drew := rfl
      rw [e1] at HLP1 HLR1
      clear HLP0 HLR0 HB0 HC0 HW0 e1
      generalize (w.alloc (.cells #[.bool false, .slice a2 n2 cap2] 47)).drew = wd at hb0 hc0 hw0 HLP1 HLR1 ⊢
      obtain ⟨q0, q1, _, _, _⟩ := box2_facts hw0
      have HB0 := hid hb0
      clear hb0 hw0
      refine AnyT.takeD (i := 0) (v := .pointer (some ⟨w.heap.size, 1, none⟩)) rfl rfl (by kernel_rfl) (by kernel_rfl) (by kernel_rfl) (by first | exact (fun _ _ _ h => h) | exact (fun _ _ _ h => absurd h.1 (by simp))) (by kernel_rfl) (by rfl) (by rintro w' rfl; go_simp) rfl ?_; go_frame
      refine AnyT.takeD (i := 1) (v := .slice a2 n2 cap2) rfl rfl (by kernel_rfl) (by kernel_rfl) (by kernel_rfl) (by first | exact (fun _ _ _ h => h) | exact (fun _ _ _ h => absurd h.1 (by simp))) (by kernel_rfl) (by rfl) (by rintro w' rfl; go_simp) rfl ?_; go_frame
      refine AnyT.takeD (i := 2) (v := .int .i64 n2) rfl rfl (by kernel_rfl) (by kernel_rfl) (by kernel_rfl) (by first | exact (fun _ _ _ h => h) | exact (fun _ _ _ h => absurd h.1 (by simp))) (by kernel_rfl) (by rfl) (by rintro w' rfl; go_simp) rfl ?_; go_frame
      refine AnyT.takeD (i := 3) (v := .bool false) rfl rfl (by kernel_rfl) (by kernel_rfl) (by kernel_rfl) (by first | exact (fun _ _ _ h => h) | exact (fun _ _ _ h => absurd h.1 (by simp))) (by kernel_rfl) (by rfl) (by rintro w' rfl; go_simp) rfl ?_; go_frame
      refine AnyT.takeD (i := 4) (v := .bool false) rfl rfl (by kernel_rfl) (by kernel_rfl) (by kernel_rfl) (by first | exact (fun _ _ _ h => h) | exact (fun _ _ _ h => absurd h.1 (by simp))) (by kernel_rfl) (by rfl) (by rintro w' rfl; go_simp) rfl ?_; go_frame
      refine AnyT.takeD (i := 5) (v := .pointer (some ⟨w.heap.size, 0, none⟩)) rfl rfl (by kernel_rfl) (by kernel_rfl) (by kernel_rfl) (by first | exact (fun _ _ _ h => h) | exact (fun _ _ _ h => absurd h.1 (by simp))) (by kernel_rfl) (by rfl) (by rintro w' rfl; go_simp) rfl ?_; go_frame
      refine AnyT.takeD (i := 6) (v := .bool false) rfl rfl (by kernel_rfl) (by kernel_rfl) (by kernel_rfl) (by first | exact (fun _ _ _ h => h) | exact (fun _ _ _ h => absurd h.1 (by simp))) (by kernel_rfl) (by rfl) (by rintro w' rfl; go_simp) rfl ?_; go_frame
      refine AnyT.takeD (i := 7) (v := .bool false) rfl rfl (by kernel_rfl) (by kernel_rfl) (by kernel_rfl) (by first | exact (fun _ _ _ h => h) | exact (fun _ _ _ h => absurd h.1 (by simp))) (by kernel_rfl) (by rfl) (by rintro w' rfl; go_simp) rfl ?_; go_frame
      refine AnyT.takeDN (i := 8) rfl rfl (by kernel_rfl) (by kernel_rfl) (by kernel_rfl) (by first | exact (fun _ _ _ h => h) | exact (fun _ _ _ h => absurd h.1 (by simp))) (by kernel_rfl) (by rfl) rfl ?_; go_frame
      refine AnyT.takeDN (i := 9) rfl rfl (by kernel_rfl) (by kernel_rfl) (by kernel_rfl) (by first | exact (fun _ _ _ h => h) | exact (fun _ _ _ h => absurd h.1 (by simp))) (by kernel_rfl) (by rfl) rfl ?_; go_frame
      refine AnyT.takeDN (i := 10) rfl rfl (by kernel_rfl) (by kernel_rfl) (by kernel_rfl) (by first | exact (fun _ _ _ h => h) | exact (fun _ _ _ h => absurd h.1 (by simp))) (by kernel_rfl) (by rfl) rfl ?_; go_frame
      refine AnyT.takeDN (i := 11) rfl rfl (by kernel_rfl) (by kernel_rfl) (by kernel_rfl) (by first | exact (fun _ _ _ h => h) | exact (fun _ _ _ h => absurd h.1 (by simp))) (by kernel_rfl) (by rfl) rfl ?_; go_frame
      refine AnyT.takeDN (i := 12) rfl rfl (by kernel_rfl) (by kernel_rfl) (by kernel_rfl) (by first | exact (fun _ _ _ h => h) | exact (fun _ _ _ h => absurd h.1 (by simp))) (by kernel_rfl) (by rfl) rfl ?_; go_frame
      refine AnyT.takeDN (i := 13) rfl rfl (by kernel_rfl) (by kernel_rfl) (by kernel_rfl) (by first | exact (fun _ _ _ h => h) | exact (fun _ _ _ h => absurd h.1 (by simp))) (by kernel_rfl) (by rfl) rfl ?_; go_frame
      refine AnyT.takeDN (i := 14) rfl rfl (by kernel_rfl) (by kernel_rfl) (by kernel_rfl) (by first | exact (fun _ _ _ h => h) | exact (fun _ _ _ h => absurd h.1 (by simp))) (by kernel_rfl) (by rfl) rfl ?_; go_frame
      refine AnyT.takeD (i := 15) (v := .bool false) rfl rfl (by kernel_rfl) (by kernel_rfl) (by kernel_rfl) (by first | exact (fun _ _ _ h => h) | exact (fun _ _ _ h => absurd h.1 (by simp))) (by kernel_rfl) (by rfl) (by rintro w' rfl; go_simp) rfl ?_; go_frame
      refine AnyT.takeD (i := 16) (v := .bool false) rfl rfl (by kernel_rfl) (by kernel_rfl) (by kernel_rfl) (by first | exact (fun _ _ _ h => h) | exact (fun _ _ _ h => absurd h.1 (by simp))) (by kernel_rfl) (by rfl) (by rintro w' rfl; go_simp) rfl ?_; go_frame
      refine AnyT.takeD (i := 17) (v := .bool false) rfl rfl (by kernel_rfl) (by kernel_rfl) (by kernel_rfl) (by first | exact (fun _ _ _ h => h) | exact (fun _ _ _ h => absurd h.1 (by simp))) (by kernel_rfl) (by rfl) (by rintro w' rfl; go_simp) rfl ?_; go_frame
      refine AnyT.takeD (i := 18) (v := .pointer (some ⟨w.heap.size, 0, none⟩)) rfl rfl (by kernel_rfl) (by kernel_rfl) (by kernel_rfl) (by first | exact (fun _ _ _ h => h) | exact (fun _ _ _ h => absurd h.1 (by simp))) (by kernel_rfl) (by rfl) (by rintro w' rfl; go_simp) rfl ?_; go_frame
      refine AnyT.takeD (i := 19) (v := .bool false) rfl rfl (by kernel_rfl) (by kernel_rfl) (by kernel_rfl) (by first | exact (fun _ _ _ h => h) | exact (fun _ _ _ h => absurd h.1 (by simp))) (by kernel_rfl) (by rfl) (by rintro w' rfl; go_simp) rfl ?_; go_frame
      refine AnyT.takeD (i := 20) (v := .bool true) rfl rfl (by kernel_rfl) (by kernel_rfl) (by kernel_rfl) (by first | exact (fun _ _ _ h => h) | exact (fun _ _ _ h => absurd h.1 (by simp))) (by kernel_rfl) (by rfl) (by rintro w' rfl; go_simp) rfl ?_; go_frame
      refine AnyT.takeD (i := 21) (v := .bool true) rfl rfl (by kernel_rfl) (by kernel_rfl) (by kernel_rfl) (by first | exact (fun _ _ _ h => h) | exact (fun _ _ _ h => absurd h.1 (by simp))) (by kernel_rfl) (by rfl) (by rintro w' rfl; go_simp) rfl ?_; go_frame
      refine AnyT.takeD (i := 22) (v := .pointer (some ⟨w.heap.size, 1, none⟩)) rfl rfl (by kernel_rfl) (by kernel_rfl) (by kernel_rfl) (by first | exact (fun _ _ _ h => h) | exact (fun _ _ _ h => absurd h.1 (by simp))) (by kernel_rfl) (by rfl) (by rintro w' rfl; go_simp) rfl ?_; go_frame
      refine AnyT.takeD (i := 23) (v := .slice a2 n2 cap2) rfl rfl (by kernel_rfl) (by kernel_rfl) (by kernel_rfl) (by first | exact (fun _ _ _ h => h) | exact (fun _ _ _ h => absurd h.1 (by simp))) (by kernel_rfl) (by rfl) (by rintro w' rfl; go_simp) rfl ?_; go_frame
      refine AnyT.takeD (i := 24) (v := .slice (some ⟨b, off, none⟩) n cap) rfl rfl (by kernel_rfl) (by kernel_rfl) (by kernel_rfl) (by first | exact (fun _ _ _ h => h) | exact (fun _ _ _ h => absurd h.1 (by simp))) (by kernel_rfl) (by rfl) (by rintro w' rfl; go_simp) rfl ?_; go_frame
      refine AnyT.takeD (i := 25) (v := .int .i64 n) rfl rfl (by kernel_rfl) (by kernel_rfl) (by kernel_rfl) (by first | exact (fun _ _ _ h => h) | exact (fun _ _ _ h => absurd h.1 (by simp))) (by kernel_rfl) (by rfl) (by rintro w' rfl; go_simp) rfl ?_; go_frame
      refine AnyT.next (i := 26) (by kernel_rfl) rfl (wpOp_of_list rfl ?_)
      go_wp2_with (go_at_call 58; refine HLR1.out.mono ?_; rintro e w1 ⟨rfl, rfl⟩)
      refine ⟨fun _ => rfl, ?_⟩
      refine AnyT.takeD (i := 27) (v := .bool R) rfl rfl (by kernel_rfl) (by kernel_rfl) (by kernel_rfl) (by first | exact (fun _ _ _ h => h) | exact (fun _ _ _ h => absurd h.1 (by simp))) (by kernel_rfl) (by rfl) (by rintro w' rfl; go_simp) rfl ?_; go_frame
      refine AnyT.takeD (i := 28) (v := .bool R) rfl rfl (by kernel_rfl) (by kernel_rfl) (by kernel_rfl) (by first | exact (fun _ _ _ h => h) | exact (fun _ _ _ h => absurd h.1 (by simp))) (by kernel_rfl) (by rfl) (by rintro w' rfl; go_simp) rfl ?_; go_frame
      refine AnyT.takeD (i := 29) (v := .bool R) rfl rfl (by kernel_rfl) (by kernel_rfl) (by kernel_rfl) (by first | exact (fun _ _ _ h => h) | exact (fun _ _ _ h => absurd h.1 (by simp))) (by kernel_rfl) (by rfl) (by rintro w' rfl; go_simp) rfl ?_; go_frame
      refine ⟨by kernel_rfl, ?_⟩
      go_wp2
      go_ret
      exact ⟨by simp, HB0.out⟩
end Go.Proofs.YtkmjeegnijohmaaGreat

namespace Go.Proofs.YtkmjeegnijohmaaGreat
open Go.RowKit
set_option linter.unusedVariables false

def encE (M : Mask) (p : List (List Int)) (every : Int) : Int := if picsB M p = true then (if inB every 1 60 = true then 0 else 7) else 1

set_option maxHeartbeats 1000000 in
theorem sEncode_c (w : World) (a a2 : Option Addr) (n cap n2 cap2 : Nat) (M : Mask) (p : List (List Int)) (every : Int) (hn : M.length = n) (hm : n ≤ maxLen) (H : RowsAt w a M) (hn2 : p.length = n2) (hm2 : n2 ≤ maxLen) (H2 : RowsAt w a2 p) :
    Calls Tryz.prog 30 #[.slice a n cap, .slice a2 n2 cap2, .int .i64 every] w fun e w' => Below w.heap.size w w' ∧
      ((encE M p every ≠ 0 ∧ e = .returned (.tuple #[.slice none 0 0, .int .i64 (encE M p every)])) ∨ (encE M p every = 0 ∧ ∃ v base, e = .returned (.tuple #[v, .int .i64 0]) ∧ w.heap.size ≤ base ∧ FrmsO w' base (fun _ => True) v (encF M p every.toNat))) := by
  have HV := hid (validPics_c w a n cap M hn hm H a2 n2 cap2 p hn2 hm2 H2)
  have HW := hid (fun X => swithin_c every 1 60 X)
  cases hP : picsB M p
  · have he : encE M p every = 1 := by unfold encE; rw [hP]; rfl
    rw [hP] at HV
    rw [he]
    clear hn H hn2 H2 hP he
    go_enter Tryz.func30, Tryz.ntmps30
    go_wp2_with (go_at_call 31; refine HV.out.mono ?_; rintro e w1 ⟨rfl, hb1⟩)
    go_ret2
    exact ⟨hb1, .inl ⟨by decide, rfl⟩⟩
  · cases hE : inB every 1 60
    · have he : encE M p every = 7 := by unfold encE; rw [hP, hE]; rfl
      rw [hP] at HV
      rw [hE] at HW
      rw [he]
      clear hn H hn2 H2 hP he hE
      go_enter Tryz.func30, Tryz.ntmps30
      go_wp2_with first
        | (go_at_call 31; refine HV.out.mono ?_; rintro e w1 ⟨rfl, hb1⟩)
        | (go_at_call 32; refine (HW.out _).mono ?_; rintro e w2 ⟨rfl, rfl⟩)
      go_ret2
      exact ⟨hb1, .inl ⟨by decide, rfl⟩⟩
    · have he : encE M p every = 0 := by unfold encE; rw [hP, hE]; rfl
      have hE' : 1 ≤ every ∧ every ≤ 60 := by unfold inB at hE; simpa using hE
      obtain ⟨E, rfl⟩ : ∃ E : Nat, every = (E : Int) := ⟨every.toNat, by omega⟩
      have HC := hid (fun (X : World) (hX : Below w.heap.size w X) => encode_c X a a2 n cap n2 cap2 M p E hn hn2 hm (H.below hX) (H2.below hX) hP (by omega) (by omega))
      rw [hP] at HV
      rw [hE] at HW
      rw [he, Int.toNat_natCast]
      clear hn H hn2 H2 hP he hE hE'
      go_enter Tryz.func30, Tryz.ntmps30
      go_wp2_with first
        | (go_at_call 31; refine HV.out.mono ?_; rintro e w1 ⟨rfl, hb1⟩)
        | (go_at_call 32; refine (HW.out _).mono ?_; rintro e w2 ⟨rfl, rfl⟩)
        | (go_at_call 51; refine (HC.out _ hb1).mono ?_; rintro e w3 ⟨v3, rfl, ho3, hb3⟩)
      go_ret2
      exact ⟨chain hb1 hb3, .inr ⟨trivial, v3, w1.heap.size, rfl, hb1.size, ho3⟩⟩
end Go.Proofs.YtkmjeegnijohmaaGreat

namespace Go.Proofs.YtkmjeegnijohmaaGreat
open Go.RowKit
set_option linter.unusedVariables false

set_option maxRecDepth 100000 in
set_option maxHeartbeats 2000000 in
theorem r8valid_c (w : World) (a : Option Addr) (n cap : Nat) (M : Mask) (hn : M.length = n) (hm : n ≤ maxLen) (H : RowsAt w a M) (a2 : Option Addr) (n2 cap2 : Nat) (fs : List Frm) (hn2 : fs.length = n2) (hm2 : n2 ≤ maxLen) (H2 : FramesAt w a2 fs) :
    Calls Tryz.prog 47 #[.slice a n cap, .slice a2 n2 cap2] w fun e w' => e = .returned (.bool (validB M fs)) ∧ Below w.heap.size w w' := by
  have HV := hid (r2Valid_c w a n cap M hn hm H)
  have HW := hid (fun X => r8in_c n2 1 60 X)
  cases hM : okM M
  · have hp : validB M fs = false := by unfold validB; rw [hM]; rfl
    rw [hM] at HV
    rw [hp]
    clear hn hn2 H H2 hM hp
    go_enter Tryz.func47, Tryz.ntmps47
    go_wp2_with (go_at_call 57; refine HV.out.mono ?_; rintro e w1 ⟨rfl, rfl⟩)
    go_ret
    exact ⟨rfl, Below.refl _ _⟩
  · cases hL : inB n2 1 60
    · have hp : validB M fs = false := by unfold validB; rw [hM, hn2, hL]; rfl
      rw [hM] at HV
      rw [hL] at HW
      rw [hp]
      clear hn hn2 H H2 hM hp hL
      go_enter Tryz.func47, Tryz.ntmps47
      go_wp2_with first
        | (go_at_call 57; refine HV.out.mono ?_; rintro e w1 ⟨rfl, rfl⟩)
        | (go_at_call 35; refine (HW.out _).mono ?_; rintro e w2 ⟨rfl, rfl⟩)
      go_ret
      exact ⟨rfl, Below.refl _ _⟩
    · have hl1 : 1 ≤ n2 ∧ n2 ≤ 60 := by unfold inB at hL; simp at hL; omega
      obtain ⟨hl1, hn60⟩ := hl1
      obtain ⟨fb, fo, xa, xn, xc, rfl, hfb, hf0, hf1, hxn, hxm, hxi⟩ := H2 0 (by omega)
      rw [Nat.zero_mul, Nat.add_zero] at hf0 hf1
      obtain ⟨K, hK⟩ : ∃ K, K = (fs[0]'(by omega)).1 := ⟨_, rfl⟩
      rw [← hK] at hf0
      have hK2 : (fs[0]?.getD (false, [])).1 = K := by rw [hK, List.getElem?_eq_getElem (by omega)]; rfl
      have i0 : (0 : Int) < (n2 : Int) := by omega
      have hp : validB M fs = (K && fs.all (frB M)) := by unfold validB; rw [hM, hn2, hL, hK2]; rfl
      have h1 : 1 ≤ n := by rw [← hn]; exact (okM_ok hM).2.1
      have HP2 := hid H2
      have HFR := hid (fun (X : World) (hX : Below w.heap.size w X) (kf : Bool) (ra : Option Addr) (rn rc : Nat) (x : List Int) (hrn : x.length = rn) (hrm : rn ≤ maxLen) (hri : IntsAt X ra x) => r8frame_c X kf ra a rn rc n cap M x hn h1 (H.below hX) hrn hrm hri)
      have HN2 := hid hn2
      rw [hM] at HV
      rw [hL] at HW
      rw [hp]
      clear hn hn2 H H2 hM hp hL hK hK2 hf1 hxn hxm hxi
      cases K
      · go_enter Tryz.func47, Tryz.ntmps47
        go_wp2_with first
          | (go_at_call 57; refine HV.out.mono ?_; rintro e w1 ⟨rfl, rfl⟩)
          | (go_at_call 35; refine (HW.out _).mono ?_; rintro e w2 ⟨rfl, rfl⟩)
        go_ret
        exact ⟨rfl, Below.refl _ _⟩
      · go_enter Tryz.func47, Tryz.ntmps47
        go_wp2_with first
          | (go_at_call 57; refine HV.out.mono ?_; rintro e w1 ⟨rfl, rfl⟩)
          | (go_at_call 35; refine (HW.out _).mono ?_; rintro e w2 ⟨rfl, rfl⟩)
        clear hf0 hfb
        go_loopw [25] (fun i wr => ∃ k : Nat, k ≤ n2 ∧ i = .int .i64 k ∧ Below w.heap.size w wr ∧ ∀ j (hj : j < fs.length), j < k → frB M fs[j] = true) (fun i _ => n2 - (intOf i).toNat)
        case atStart => exact ⟨0, Nat.zero_le _, rfl, Below.refl _ _, fun i _ h => by omega⟩
        case round =>
          obtain ⟨k, hk, rfl, hb, hno⟩ := hrel
          have HNO := hid hno
          clear hno
          by_cases hlt : k < n2
          · have hkl : k < fs.length := by rw [HN2.out]; exact hlt
            obtain ⟨pb, po, ya, yn, yc, e1, hpb, hp0, hp1, hyn, hym, hyi⟩ := (HP2.out.below hb) k hkl
            cases e1
            obtain ⟨⟨kf, x⟩, hr⟩ : ∃ r, r = fs[k]'hkl := ⟨_, rfl⟩
            rw [← hr] at hp0 hyn hyi
            simp only [] at hp0 hyn hyi
            have hba : ∀ o : Obj, Below wr.heap.size wr (wr.alloc o) := fun o => (Below.refl _ _).alloc (Nat.le_refl _) _
            have HF2 := hid (fun (o : Obj) => HFR.out (wr.alloc o) (chain hb (hba o)) kf ya yn yc x hyn hym (hyi.below (hba o)))
            obtain ⟨B, hB⟩ : ∃ B, B = frB M (kf, x) := ⟨_, rfl⟩
            rw [← hB] at HF2
            rw [hr] at hB
            have HBB := hid hB
            have HKL := hid hkl
            have HBA := hid hba
            have HB := hid hb
            clear hB hyn hyi hr hba hb
            cases B
            · go_wp2_with (go_at_call 69; refine (HF2.out _).mono ?_; rintro e w1 ⟨rfl, hb1⟩)
              go_ret
              refine ⟨ret_bool ?_, chain (chain HB.out (HBA.out _)) hb1⟩
              rw [allP_stop HKL.out HBB.out.symm]; rfl
            · go_wp2_with (go_at_call 69; refine (HF2.out _).mono ?_; rintro e w1 ⟨rfl, hb1⟩)
              refine ⟨⟨k + 1, by omega, by go_num, chain (chain HB.out (HBA.out _)) hb1, fun j hj hjk => ?_⟩, by simp [intOf]; omega⟩
              by_cases e : j = k
              · subst e; exact HBB.out.symm
              · exact HNO.out j hj (by omega)
          · go_wp2
            go_ret
            refine ⟨ret_bool ?_, hb⟩
            rw [allP_done (fun j hj => HNO.out j hj (by have := HN2.out; omega))]; rfl
end Go.Proofs.YtkmjeegnijohmaaGreat

namespace Go.Proofs.YtkmjeegnijohmaaGreat
open Go.RowKit
set_option linter.unusedVariables false

theorem frm_set_same {F : List Frm} {k : Nat} (hk : k < F.length) : F.set k (F[k].1, F[k].2) = F := by
  refine List.ext_getElem (by simp) fun i h1 h2 => ?_
  rw [List.getElem_set]
  split
  · rename_i h; subst h; rfl
  · rfl

theorem FrmsO.set' {W : World} {base g n c k : Nat} {S : Nat → Prop} {F F' : List Frm} {u : Value} {l : List Int} (h : FrmsO W base S (.slice (some ⟨g, 0, none⟩) n c) F) (hk : k < F.length) (hu : ElemI 3 W base S u l) (hF : F.set k (F[k].1, l) = F') :
    FrmsO (W.setCell ⟨g, k * 2 + 1, none⟩ u) base S (.slice (some ⟨g, 0, none⟩) n c) F' := by
  subst hF; exact FrmsO.set h hk hu

set_option maxRecDepth 100000 in
set_option maxHeartbeats 1000000 in
theorem copied_c (w : World) (a : Option Addr) (n cap : Nat) (F : List Frm) (hn : F.length = n) (hm : n ≤ 1000) (hl : ∀ f ∈ F, f.2.length ≤ 1000) (H : FramesAt w a F) :
    Calls Tryz.prog 68 #[.slice a n cap] w fun e w' => ∃ v, e = .returned v ∧ FrmsO w' w.heap.size (fun _ => True) v F ∧ Below w.heap.size w w' := by
  have HCF := hid (cloneF_c w a n cap F hn hm H)
  have HN := hid hn
  have HL := hid hl
  clear hn hl H
  go_enter Tryz.func68, Tryz.ntmps68
  go_wp2_with (go_at_call 89; refine HCF.out.mono ?_; rintro e w1 ⟨v, rfl, ho1, hb1⟩; refine Stop.of ?_)
  refine Stop.go ?_
  obtain ⟨va, vc, hva⟩ := ho1.slice
  rw [HN.out] at hva
  subst hva
  have HO1 := hid ho1
  have HB1 := hid hb1
  clear ho1 hb1 HCF
  go_wp2
  go_loopw [9] (fun i wr => ∃ k : Nat, k ≤ n ∧ i = .int .i64 k ∧ FrmsO wr w.heap.size (fun _ => True) (.slice va n vc) F ∧ Below w.heap.size w wr) (fun i _ => n - (intOf i).toNat)
  case atStart => exact ⟨0, Nat.zero_le _, rfl, HO1.out, HB1.out⟩
  case round =>
    obtain ⟨k, hk, rfl, ho, hb⟩ := hrel
    by_cases hlt : k < n
    · have hkl : k < F.length := by rw [HN.out]; exact hlt
      obtain ⟨ra', rc', e, hfm, hfr⟩ := ho.reads
      obtain ⟨g, off, ra, rn, rc, e2, hg, h0, h1, hrn, hrm, hri⟩ := hfr k hkl
      obtain ⟨xs, hoo, hgg, hoe⟩ := id ho
      have hgo : va = some ⟨g, 0, none⟩ ∧ off = 0 ∧ w.heap.size ≤ g ∧ (∃ cur, wr.heap[g]? = some (.cells cur 47 (0, 0)) ∧ cur.size = vc * 2 ∧ n ≤ vc) := by
        rcases hoo.2 with ⟨e3, h3⟩ | ⟨g', cap', cur, e3, hbg, hgg', hnc, hcm, hsz, _⟩
        · rw [HN.out] at h3; omega
        · cases e3
          cases e
          cases e2
          exact ⟨rfl, rfl, hbg, cur, hgg', hsz, by rw [HN.out] at hnc; exact hnc⟩
      obtain ⟨rfl, rfl, hgw, cur, hcur, hcs, hcn⟩ := hgo
      clear e e2
      rw [Nat.zero_add] at h0 h1
      have hr10 : rn ≤ 1000 := by rw [← hrn]; exact HL.out _ (List.getElem_mem hkl)
      have HCI := hid (clone_c wr ra rn rc F[k].2 hrn (by omega) hri)
      have HOW := hid ho
      have HBW := hid hb
      have HRN := hid hrn
      have HKL := hid hkl
      have HCUR := hid hcur
      have HGW := hid hgw
      have hki : (k : Int) < (n : Int) := by omega
      have hki0 : (0 : Int) ≤ (k : Int) := by omega
      clear ho hb hrn hri hfr hoo hgg hoe hfm hcur hcs h0
      go_wp2_with (go_at_call 63; refine HCI.out.mono ?_; rintro e w2 ⟨u, rfl, ho2, hb2⟩; refine Stop.of ?_)
      refine Stop.go ?_
      obtain ⟨ua, uc, rfl⟩ := ownsRow_slice ho2
      have hfo2 := HOW.out.below hb2
      have hel : ElemI 3 w2 w.heap.size (fun _ => True) (.slice ua rn uc) F[k].2 := ElemI.own' ho2 rfl HRN.out hrm (fun _ _ => trivial)
      have hset := FrmsO.set' hfo2 HKL.out hel (frm_set_same HKL.out)
      have hg2 : w2.heap[g]? = some (.cells cur 47 (0, 0)) := (hb2.block g hg).trans HCUR.out
      have hgl : g < w2.heap.size := Nat.lt_of_lt_of_le hg hb2.size
      have hc2 : w2.cell? ⟨g, k * 2 + 1, none⟩ = some (.slice ra rn rc) := (hb2.cell (p := ⟨g, _, none⟩) hg).trans h1
      have hf2 : w2.frozen? ⟨g, k * 2 + 1, none⟩ = false := by simp [World.frozen?, hg2]
      have hbs := below_set (chain HBW.out hb2) HGW.out (k * 2 + 1) (.slice ua rn uc)
      have HSET := hid hset
      have HBS := hid hbs
      clear hfo2 hel hset hg2 hbs ho2 hb2 h1
      go_wp2
      exact ⟨⟨k + 1, by omega, by go_num, HSET.out, HBS.out⟩, by simp [intOf]; omega⟩
    · go_wp2
      go_ret
      exact ⟨_, rfl, ho, hb⟩
end Go.Proofs.YtkmjeegnijohmaaGreat

namespace Go.Proofs.YtkmjeegnijohmaaGreat
open Go.RowKit
set_option linter.unusedVariables false

def loseAt (F : List Frm) (i : Int) (k : Nat) : Frm := if (k : Int) = i then ((F[k]?.getD (false, [])).1, []) else F[k]?.getD (false, [])
def loseF (F : List Frm) (i : Int) : List Frm := (List.range F.length).map (loseAt F i)
theorem loseF_len (F : List Frm) (i : Int) : (loseF F i).length = F.length := by simp [loseF]
theorem loseF_take (F : List Frm) (i : Int) {k : Nat} (hk : k < F.length) : (loseF F i).take (k + 1) = (loseF F i).take k ++ [loseAt F i k] := by
  have hc : k < (loseF F i).length := by rw [loseF_len]; exact hk
  rw [List.take_succ_eq_append_getElem hc]
  simp [loseF]
theorem loseF_set (F : List Frm) {i : Nat} (hi : i < F.length) : F.set i (F[i].1, []) = loseF F i := by
  refine List.ext_getElem (by simp [loseF_len]) fun k h1 h2 => ?_
  rw [List.length_set] at h1
  simp only [loseF, List.getElem_map, List.getElem_range, loseAt]
  rw [List.getElem_set, List.getElem?_eq_getElem h1]
  by_cases e : i = k
  · subst e; simp
  · rw [if_neg e, if_neg (by omega)]; rfl

theorem lose_c (w : World) (a : Option Addr) (n cap : Nat) (F : List Frm) (i : Nat) (hn : F.length = n) (hm : n ≤ 1000) (hl : ∀ f ∈ F, f.2.length ≤ 1000) (H : FramesAt w a F) (hi : i < n) :
    Calls Tryz.prog 46 #[.slice a n cap, .int .i64 i] w fun e w' => ∃ v, e = .returned v ∧ FrmsO w' w.heap.size (fun _ => True) v (loseF F i) ∧ Below w.heap.size w w' := by
  have HCF := hid (copied_c w a n cap F hn hm hl H)
  have hil : i < F.length := by omega
  have HS := hid (loseF_set F hil)
  have HN := hid hn
  have hki : (i : Int) < (n : Int) := by omega
  have hki0 : (0 : Int) ≤ (i : Int) := by omega
  clear hn hl H
  go_enter Tryz.func46, Tryz.ntmps46
  go_wp2_with (go_at_call 68; refine HCF.out.mono ?_; rintro e w1 ⟨v, rfl, ho1, hb1⟩; refine Stop.of ?_)
  refine Stop.go ?_
  obtain ⟨xs, hoo, hgg, hoe⟩ := id ho1
  rw [HN.out] at hoo
  rcases hoo.2 with ⟨_, h3⟩ | ⟨g, vc, cur, rfl, hbg, hgg', hnc, hcm, hsz, _⟩
  · omega
  have hg2 : g < w1.heap.size := (Array.getElem?_eq_some_iff.1 hgg').1
  have hset := FrmsO.set' (l := []) (u := .slice none 0 0) ho1 hil ⟨none, 0, 0, rfl, rfl, by decide, fun j hj => by simp at hj⟩ HS.out
  have hf2 : w1.frozen? ⟨g, i * 2 + 1, none⟩ = false := by simp [World.frozen?, hgg']
  have hc2 : ∃ u, w1.cell? ⟨g, i * 2 + 1, none⟩ = some u := by
    have : i * 2 + 1 < cur.size := by omega
    exact ⟨cur[i * 2 + 1], by simp [World.cell?, hgg', this]⟩
  obtain ⟨u, hc2⟩ := hc2
  have hbs := below_set hb1 hbg (i * 2 + 1) (.slice none 0 0)
  have HSET := hid hset
  have HBS := hid hbs
  clear hset hbs hoo hgg hoe ho1 hb1 hgg' HCF
  go_wp2
  go_ret
  exact ⟨_, rfl, HSET.out, HBS.out⟩

set_option maxRecDepth 100000 in
set_option maxHeartbeats 2000000 in
theorem r8lose_c (w : World) (a : Option Addr) (n cap : Nat) (F : List Frm) (i : Int) (hn : F.length = n) (hm : n ≤ 1000) (hl : ∀ f ∈ F, f.2.length ≤ 1000) (H : FramesAt w a F) :
    Calls Tryz.prog 48 #[.slice a n cap, .int .i64 i] w fun e w' => ∃ v, e = .returned v ∧ FrmsO w' w.heap.size (fun b => w.heap.size ≤ b) v (loseF F i) ∧ Below w.heap.size w w' := by
  have HN := hid hn
  have HL := hid hl
  have HH := hid H
  have HCT := hid (fun (k : Nat) (hk : k < F.length) => loseF_take F i hk)
  have HCL := hid (show (loseF F i).length = n by rw [loseF_len, hn])
  have HLA := hid (show ∀ k, loseAt F i k = if (k : Int) = i then ((F[k]?.getD (false, [])).1, []) else F[k]?.getD (false, []) from fun k => rfl)
  obtain ⟨C, hC⟩ : ∃ C, C = loseF F i := ⟨_, rfl⟩
  rw [← hC] at HCT HCL ⊢
  clear hn hl H hC
  go_enter Tryz.func48, Tryz.ntmps48
  go_wp2
  go_loopw [5, 11] (fun v i wr => ∃ k : Nat, k ≤ n ∧ i = .int .i64 k ∧ FrmsO wr w.heap.size (fun b => w.heap.size ≤ b) v (C.take k) ∧ Below w.heap.size w wr) (fun _ i _ => n - (intOf i).toNat)
  case atStart => exact ⟨0, Nat.zero_le _, rfl, FrmsO.nil _ _ _, Below.refl _ _⟩
  case round =>
    obtain ⟨k, hk, rfl, ho, hbk⟩ := hrel
    by_cases hlt : k < n
    · have hkl : k < F.length := by rw [HN.out]; exact hlt
      obtain ⟨b, off, ra, rn, rc, rfl, hbs, h0, h1, hrn, hrm, hri⟩ := (HH.out.below hbk) k hkl
      have htk := HCT.out k hkl
      rw [HLA.out k, List.getElem?_eq_getElem hkl] at htk
      have hr10 : rn ≤ 1000 := by rw [← hrn]; exact HL.out _ (List.getElem_mem hkl)
      obtain ⟨⟨kf, x⟩, hr⟩ : ∃ r, r = F[k]'hkl := ⟨_, rfl⟩
      rw [← hr] at h0 hrn hri htk
      simp only [Option.getD_some] at h0 hrn hri htk
      have hCk : (C.take k).length = k := by rw [List.length_take, HCL.out]; omega
      obtain ⟨va, vc, hva⟩ := ho.slice
      rw [hCk] at hva
      subst hva
      obtain ⟨o1, ho1⟩ : ∃ o, o = Obj.cells #[.bool kf, .slice ra rn rc] 47 (0, 0) := ⟨_, rfl⟩
      obtain ⟨o2, ho2⟩ : ∃ o, o = Obj.cells #[.bool kf, .slice none 0 0] 47 (0, 0) := ⟨_, rfl⟩
      have hb1 : Below wr.heap.size wr (wr.alloc o1) := (Below.refl _ _).alloc (Nat.le_refl _) _
      have hb2 : Below wr.heap.size wr ((wr.alloc o1).alloc o2) := hb1.alloc hb1.size _
      have hs2 : ((wr.alloc o1).alloc o2).heap.size = wr.heap.size + 1 + 1 := by simp
      have hq1 : ((wr.alloc o1).alloc o2).heap[wr.heap.size]? = some o1 := by rw [Below.heap_alloc _ _ _ (by simp)]; exact World.alloc_heap_new _ _
      have hq2 : ((wr.alloc o1).alloc o2).heap[wr.heap.size + 1]? = some o2 := by have := World.alloc_heap_new (wr.alloc o1) o2; rwa [World.size_alloc] at this
      rw [ho1] at hq1
      rw [ho2] at hq2
      obtain ⟨y0, y1, _, _, _⟩ := box2_facts hq1
      obtain ⟨z0, z1, f0, f1, _⟩ := box2_facts hq2
      have HTK := hid htk
      have HRN := hid hrn
      have HRI := hid hri
      have HCK := hid hCk
      have HO := hid ho
      have HBK := hid hbk
      have HB2 := hid hb2
      have HQ2 := hid hq2
      have M1 := hid (show k + 1 ≤ maxLen by unfold maxLen; omega)
      have M2 := hid (show (k + 1) * 32 ≤ 140737488355328 by omega)
      have hki : (k : Int) < (n : Int) := by omega
      have hki0 : (0 : Int) ≤ (k : Int) := by omega
      clear htk hrn hri hCk ho hbk hr hb1 hb2 hq1 hq2 hkl
      by_cases hik : (k : Int) = i
      · have hne : ((k : Int) != i) = false := by simp [hik]
        have htk2 := HTK.out
        rw [if_pos hik] at htk2
        have hFO := HO.out.below HB2.out
        have hEI : ElemI 3 ((wr.alloc o1).alloc o2) w.heap.size (fun b => w.heap.size ≤ b) (.slice none 0 0) [] := ⟨none, 0, 0, rfl, rfl, by decide, fun j hj => by simp at hj⟩
        obtain ⟨xs, hoo, hgg, hoe⟩ := hFO
        have hoo' := hoo
        rw [HCK.out] at hoo'
        have HOO := hid hoo
        have HOE := hid hoe
        have HOO' := hid hoo'
        have HEI := hid hEI
        have HTK2 := hid htk2
        have hBW := chain HBK.out HB2.out
        have HBW := hid hBW
        have hnw := news2 ((wr.alloc o1).alloc o2) (.bool kf) (.slice none 0 0) 47
        rw [hs2] at hnw
        have HNW := hid hnw
        have M3 := hid (show w.heap.size ≤ (((wr.alloc o1).alloc o2).alloc (.cells #[.bool kf, .slice none 0 0] 47)).heap.size from Nat.le_trans hBW.size (le_alloc _ _))
        clear hoo hgg hoe hoo' hEI htk2 hik hBW hnw hs2
        subst ho1 ho2
        go_wp2_with (at_builtin; refine wpList_app _ rfl (.tmp 27) (.tmp 29) 37 rfl w.heap.size 47 (.agg #[.bool false, .slice none 0 0]) 2 32 Tryz.underlying37 info_frame rfl (by decide) (.slice va k vc) k xs rfl (HOO'.out.alloc _) (some ⟨wr.heap.size + 1 + 1, 0, none⟩) 1 1 [.bool kf, .slice none 0 0] rfl rfl no_none HNW.out (frm_one _ _ _ _) M1.out M2.out M3.out ?_; intro a9 c9 w9 own9 g9; refine Stop.of ?_)
        refine Stop.go ?_
        have hsn := FrmsO.snoc (f := (kf, [])) HOO.out HOE.out HEI.out ((Below.refl _ _).alloc (Nat.le_refl _) _) g9 (by rw [HCK.out]; exact own9) (fun g hg => (own9.lt g hg).1)
        have hB9 : Below w.heap.size w w9 := (HBW.out.alloc HBW.out.size _).grown g9 M3.out (fun g hg => (HOO'.out.lt g hg).1)
        rw [← HTK2.out] at hsn
        have HSN := hid hsn
        have HB9 := hid hB9
        clear hsn hB9 own9 g9
        go_wp2
        exact ⟨⟨k + 1, by omega, by go_num, HSN.out, HB9.out⟩, by simp [intOf]; omega⟩
      · have hne : ((k : Int) != i) = true := by simp [hik]
        have htk2 := HTK.out
        rw [if_neg hik] at htk2
        obtain ⟨W3, hW3⟩ : ∃ W3, W3 = ((wr.alloc o1).alloc o2).alloc (.cells #[] 3) := ⟨_, rfl⟩
        have M := World.ownsRow_made (base := wr.heap.size + 1 + 1) (e := 3) (size := 1) ((wr.alloc o1).alloc o2) #[] 0 (by rw [hs2]; exact Nat.le_refl _) (Nat.zero_le _) rfl
        rw [hs2] at M
        have hb3 : Below wr.heap.size wr (((wr.alloc o1).alloc o2).alloc (.cells #[] 3)) := HB2.out.alloc HB2.out.size _
        have hz3 : (((wr.alloc o1).alloc o2).alloc (.cells #[] 3)).heap.size = wr.heap.size + 3 := by simp
        have HX0 := hid (show ra = none → rn = 0 from fun h => by
          rcases Nat.eq_zero_or_pos rn with h' | h'
          · exact h'
          · obtain ⟨_, _, e, _⟩ := HRI.out 0 (by rw [HRN.out]; exact h'); rw [h] at e; cases e)
        have HNX := hid (news_ints HRI.out hb3)
        have HM := hid M
        have HB3 := hid hb3
        have HZ3 := hid hz3
        have HTK2 := hid htk2
        have hq3 : (((wr.alloc o1).alloc o2).alloc (.cells #[] 3)).heap[wr.heap.size + 1]? = some o2 := (Below.heap_alloc _ _ _ (by rw [hs2]; omega)).trans (by have h := HQ2.out; rw [← ho2] at h; exact h)
        rw [ho2] at hq3
        have HQ3 := hid hq3
        clear M hb3 hz3 htk2 hik hW3 hq3
        subst ho1 ho2
        go_wp2_with (at_builtin; refine wpList_app _ rfl (.tmp 22) (.tmp 24) 33 rfl (wr.heap.size + 1 + 1) 3 (.int .i64 0) 1 8 Tryz.underlying33 li_int rfl Nat.one_pos (.slice (some ⟨wr.heap.size + 1 + 1, 0, none⟩) 0 0) 0 [] rfl HM.out ra rn rc (x.map (Value.int .i64)) rfl (by rw [List.length_map, HRN.out, Nat.mul_one]) HX0.out HNX.out (ints_one _) (by rw [Nat.zero_add]; unfold maxLen; omega) (by omega) (by rw [HZ3.out]; omega) ?_; intro ca cc w4 own4 g4; refine Stop.of ?_)
        refine Stop.go ?_
        have hq4 : w4.heap[wr.heap.size + 1]? = some (.cells #[.bool kf, .slice none 0 0] 47 (0, 0)) := (g4.block _ (by rw [HZ3.out]; omega) (by simp [Value.ownBlock]; try omega)).trans HQ3.out
        obtain ⟨d0, d1, k0, k1, hl4⟩ := box2_facts hq4
        have hb4 : Below wr.heap.size wr w4 := HB3.out.grown g4 HB3.out.size (fun g hg => by have := (HM.out.lt g hg).1; omega)
        have hown4 : w4.ownsRow wr.heap.size 3 1 (.slice ca rn cc) rn (x.map (Value.int .i64)) := own_mono (by simpa using own4) (by omega)
        have hne4 : ∀ g, (Value.slice ca rn cc).ownBlock = some g → g ≠ wr.heap.size + 1 := fun g hg e => by
          rcases hown4.2 with ⟨h, h'⟩ | ⟨g', cap', cur, h, h1, h2, _⟩
          · cases h; simp [Value.ownBlock] at hg
          · cases h
            obtain rfl : g' = g := by simpa [Value.ownBlock] using hg
            rw [e, hq4] at h2; cases h2
        have hf8 : (w4.setCell ⟨wr.heap.size + 1, 1, none⟩ (.slice ca rn cc)).heap[wr.heap.size + 1]? = some (.cells #[.bool kf, .slice ca rn cc] 47 (0, 0)) := by rw [cells_set hq4 1]; rfl
        obtain ⟨e0, e1, _, _, _⟩ := box2_facts hf8
        have hws := HBK.out.size
        have hB8 : Below w.heap.size w (w4.setCell ⟨wr.heap.size + 1, 1, none⟩ (.slice ca rn cc)) := below_set (chain HBK.out hb4) (by omega) _ _
        have hK8 : Keep (fun k => k ≠ wr.heap.size + 1) wr (w4.setCell ⟨wr.heap.size + 1, 1, none⟩ (.slice ca rn cc)) := (Keep.of_below hb4 : Keep (fun k => k ≠ wr.heap.size + 1) _ _).trans (Keep.set _ _ _ _)
        have hFO := FrmsO.keep (S' := fun b => w.heap.size ≤ b) HO.out hK8 (fun b h hb => ⟨by omega, h⟩)
        have hEI : ElemI 3 (w4.setCell ⟨wr.heap.size + 1, 1, none⟩ (.slice ca rn cc)) w.heap.size (fun b => w.heap.size ≤ b) (.slice ca rn cc) x := ElemI.own' (own_set (o := 1) (u := .slice ca rn cc) hown4 hne4) rfl HRN.out hrm (fun b h => Nat.le_trans hws h)
        obtain ⟨xs, hoo, hgg, hoe⟩ := hFO
        have hoo' := hoo
        rw [HCK.out] at hoo'
        have HOO := hid hoo
        have HOE := hid hoe
        have HOO' := hid hoo'
        have HEI := hid hEI
        have HB8 := hid hB8
        have hnw := news2 (w4.setCell ⟨wr.heap.size + 1, 1, none⟩ (.slice ca rn cc)) (.bool kf) (.slice ca rn cc) 47
        have hsz : (w4.setCell ⟨wr.heap.size + 1, 1, none⟩ (.slice ca rn cc)).heap.size = w4.heap.size := by simp [World.setCell]
        rw [hsz] at hnw
        have HNW := hid hnw
        have M3 := hid (show w.heap.size ≤ ((w4.setCell ⟨wr.heap.size + 1, 1, none⟩ (.slice ca rn cc)).alloc (.cells #[.bool kf, .slice ca rn cc] 47)).heap.size from Nat.le_trans HB8.out.size (le_alloc _ _))
        clear hoo hgg hoe hoo' hEI hB8 hnw hsz hK8 hf8 hown4 hne4 hb4 hq4 own4 g4 hws y0 y1 z0 z1 f0 f1
        go_wp2_with (at_builtin; refine wpList_app _ rfl (.tmp 27) (.tmp 29) 37 rfl w.heap.size 47 (.agg #[.bool false, .slice none 0 0]) 2 32 Tryz.underlying37 info_frame rfl (by decide) (.slice va k vc) k xs rfl (HOO'.out.alloc _) (some ⟨w4.heap.size, 0, none⟩) 1 1 [.bool kf, .slice ca rn cc] rfl rfl no_none HNW.out (frm_one _ _ _ _) M1.out M2.out M3.out ?_; intro a9 c9 w9 own9 g9; refine Stop.of ?_)
        refine Stop.go ?_
        have hsn := FrmsO.snoc (f := (kf, x)) HOO.out HOE.out HEI.out ((Below.refl _ _).alloc (Nat.le_refl _) _) g9 (by rw [HCK.out]; exact own9) (fun g hg => (own9.lt g hg).1)
        have hB9 : Below w.heap.size w w9 := (HB8.out.alloc HB8.out.size _).grown g9 M3.out (fun g hg => (HOO'.out.lt g hg).1)
        rw [← HTK2.out] at hsn
        have HSN := hid hsn
        have HB9 := hid hB9
        clear hsn hB9 own9 g9
        go_wp2
        exact ⟨⟨k + 1, by omega, by go_num, HSN.out, HB9.out⟩, by simp [intOf]; omega⟩
    · obtain rfl : n = k := by omega
      rw [List.take_of_length_le (by rw [HCL.out]; exact Nat.le_refl _)] at ho
      go_wp2
      go_ret
      exact ⟨_, rfl, ho, hbk⟩
end Go.Proofs.YtkmjeegnijohmaaGreat

namespace Go.Proofs.YtkmjeegnijohmaaGreat
open Go.RowKit
set_option linter.unusedVariables false

def sentE (M : Mask) (p : List (List Int)) (every trust : Int) : Int := if picsB M p = true then (if inB every 1 60 = true ∧ inB trust 0 (colsM M) = true then 0 else 7) else 1
def sentB (M : Mask) (p : List (List Int)) (every trust : Int) : Bool := decide (sentE M p every trust = 0) && rightF M p every.toNat trust

set_option maxHeartbeats 800000 in
theorem sSent_c (w : World) (a a2 : Option Addr) (n cap n2 cap2 : Nat) (M : Mask) (p : List (List Int)) (every trust : Int) (hn : M.length = n) (hm : n ≤ maxLen) (H : RowsAt w a M) (hn2 : p.length = n2) (hm2 : n2 ≤ maxLen) (H2 : RowsAt w a2 p) :
    Calls Tryz.prog 9 #[.slice a n cap, .slice a2 n2 cap2, .int .i64 every, .int .i64 trust] w fun e w' => e = .returned (.tuple #[.bool (sentB M p every trust), .int .i64 (sentE M p every trust)]) ∧ Below w.heap.size w w' := by
  have HV := hid (validPics_c w a n cap M hn hm H a2 n2 cap2 p hn2 hm2 H2)
  cases hP : picsB M p
  · have he : sentE M p every trust = 1 := by unfold sentE; rw [hP]; rfl
    have hb : sentB M p every trust = false := by unfold sentB; rw [he]; rfl
    rw [hP] at HV
    rw [he, hb]
    clear hn H hn2 H2 hP he hb
    go_enter Tryz.func9, Tryz.ntmps9
    go_wp2_with (go_at_call 31; refine HV.out.mono ?_; rintro e w1 ⟨rfl, hb1⟩)
    go_ret2
    exact ⟨rfl, hb1⟩
  · obtain ⟨hM, hp1, hp60, hpp⟩ := picsB_ok hP
    obtain ⟨_, h1, h6, hc1, hc10⟩ := okM_ok hM
    obtain ⟨b, off, ra, rc, rfl, hb, hc⟩ := rows_head H (by omega)
    have i0 : (0 : Int) < (n : Int) := by omega
    have HC0 := hid (show ∀ X : World, Below w.heap.size w X → X.cell? ⟨b, off, none⟩ = some (.slice ra (colsM M) rc) from fun X hX => (hX.cell (p := ⟨b, off, none⟩) hb).trans hc)
    have HW := hid (fun X => swithin_c every 1 60 X)
    have HT := hid (fun X => swithin_c trust 0 (colsM M) X)
    have HE := hid (show sentE M p every trust = if inB every 1 60 = true ∧ inB trust 0 (colsM M) = true then 0 else 7 by unfold sentE; rw [hP]; rfl)
    rw [hP] at HV
    cases hE : inB every 1 60
    · have he : sentE M p every trust = 7 := by rw [HE.out, hE]; rfl
      have hb : sentB M p every trust = false := by unfold sentB; rw [he]; rfl
      rw [hE] at HW
      rw [he, hb]
      clear hn H hn2 H2 hP he hb hE hc hpp hM
      go_enter Tryz.func9, Tryz.ntmps9
      go_wp2_with first
        | (go_at_call 31; refine HV.out.mono ?_; rintro e w1 ⟨rfl, hb1⟩)
        | (go_at_call 32; refine (HW.out _).mono ?_; rintro e w2 ⟨rfl, rfl⟩)
      go_ret2
      exact ⟨rfl, hb1⟩
    · rw [hE] at HW
      cases hT : inB trust 0 (colsM M)
      · have he : sentE M p every trust = 7 := by rw [HE.out, hE, hT]; rfl
        have hb : sentB M p every trust = false := by unfold sentB; rw [he]; rfl
        rw [he, hb]
        obtain ⟨W, hW⟩ : ∃ W, W = colsM M := ⟨_, rfl⟩
        rw [← hW] at hT HC0
        clear hn H hn2 H2 hP he hb hc hpp hM hW HT HW
        go_enter Tryz.func9, Tryz.ntmps9
        go_wp2_with first
          | (go_at_call 31; refine HV.out.mono ?_; rintro e w1 ⟨rfl, hb1⟩; have hc1' := HC0.out w1 hb1)
          | (go_at_call 32; refine (swithin_c _ _ _ _).mono ?_; rintro e w2 ⟨rfl, rfl⟩)
        go_ret2
        exact ⟨rfl, hb1⟩
      · have he : sentE M p every trust = 0 := by rw [HE.out, hE, hT]; rfl
        have hb : sentB M p every trust = rightF M p every.toNat trust := by unfold sentB; rw [he]; rfl
        have hE' : 1 ≤ every ∧ every ≤ 60 := by unfold inB at hE; simpa using hE
        obtain ⟨E, rfl⟩ : ∃ E : Nat, every = (E : Int) := ⟨every.toNat, by omega⟩
        have HR := hid (fun (X : World) (hX : Below w.heap.size w X) => right_c X (some ⟨b, off, none⟩) a2 n cap n2 cap2 M p E trust hn hn2 hm hm2 (H.below hX) (H2.below hX) hP (by omega) (by omega))
        rw [he, hb, Int.toNat_natCast]
        obtain ⟨W, hW⟩ : ∃ W, W = colsM M := ⟨_, rfl⟩
        rw [← hW] at hT HC0
        clear hn H hn2 H2 hP he hb hc hpp hM hW hE' HT HW
        go_enter Tryz.func9, Tryz.ntmps9
        go_wp2_with first
          | (go_at_call 31; refine HV.out.mono ?_; rintro e w1 ⟨rfl, hb1⟩; have hc1' := HC0.out w1 hb1)
          | (go_at_call 32; refine (swithin_c _ _ _ _).mono ?_; rintro e w2 ⟨rfl, rfl⟩)
          | (go_at_call 33; refine (HR.out _ hb1).mono ?_; rintro e w3 ⟨rfl, hb3⟩)
        go_ret2
        exact ⟨rfl, chain hb1 hb3⟩

def awM : Mask := [[1, 1, 0], [0, 1, 1]]
def awP : List (List Int) := [[0, 0, 0], [0, 5, 0], [0, 5, 2]]
theorem aw_enc : encE awM awP 3 = 0 ∧ encF awM awP (Int.toNat 3) = [(true, [0, 0, 0]), (false, [5, 5]), (false, [0, 2])] := ⟨by kernel_rfl, by kernel_rfl⟩
theorem aw_sent : sentE awM awP 3 1 = 0 ∧ sentB awM awP 3 1 = true := ⟨by kernel_rfl, by kernel_rfl⟩
theorem ints_lit3 (w : World) (x y z : Int) (T : TypeId) : IntsAt (w.alloc (.cells #[.int .i64 x, .int .i64 y, .int .i64 z] T)) (some ⟨w.heap.size, 0, none⟩) [x, y, z] := fun j hj => ⟨w.heap.size, 0, rfl, by simp, by
  rw [World.cell?_alloc_at _ _ _ _ rfl]
  match j, hj with
  | 0, _ => rfl
  | 1, _ => rfl
  | 2, _ => rfl⟩
theorem ints_lit2 (w : World) (x y : Int) (T : TypeId) : IntsAt (w.alloc (.cells #[.int .i64 x, .int .i64 y] T)) (some ⟨w.heap.size, 0, none⟩) [x, y] := fun j hj => ⟨w.heap.size, 0, rfl, by simp, by
  rw [World.cell?_alloc_at _ _ _ _ rfl]
  match j, hj with
  | 0, _ => rfl
  | 1, _ => rfl⟩
theorem rows_three {w : World} {a1 a2 a3 : Option Addr} {n1 c1 n2 c2 n3 c3 : Nat} {x y z : List Int} (T : TypeId) (h1 : x.length = n1) (h2 : y.length = n2) (h3 : z.length = n3) (m1 : n1 ≤ maxLen) (m2 : n2 ≤ maxLen) (m3 : n3 ≤ maxLen) (H1 : IntsAt w a1 x) (H2 : IntsAt w a2 y) (H3 : IntsAt w a3 z) :
    RowsAt (w.alloc (.cells #[.slice a1 n1 c1, .slice a2 n2 c2, .slice a3 n3 c3] T)) (some ⟨w.heap.size, 0, none⟩) [x, y, z] := by
  have hb : Below w.heap.size w (w.alloc (.cells #[.slice a1 n1 c1, .slice a2 n2 c2, .slice a3 n3 c3] T)) := (Below.refl _ _).alloc (Nat.le_refl _) _
  intro j hj
  match j, hj with
  | 0, _ => exact ⟨w.heap.size, 0, a1, n1, c1, rfl, by simp, by rw [World.cell?_alloc_at _ _ _ _ rfl]; rfl, h1, m1, H1.below hb⟩
  | 1, _ => exact ⟨w.heap.size, 0, a2, n2, c2, rfl, by simp, by rw [World.cell?_alloc_at _ _ _ _ rfl]; rfl, h2, m2, H2.below hb⟩
  | 2, _ => exact ⟨w.heap.size, 0, a3, n3, c3, rfl, by simp, by rw [World.cell?_alloc_at _ _ _ _ rfl]; rfl, h3, m3, H3.below hb⟩

theorem awM_rows (w : World) : let W := ((w.alloc (.cells #[.int .i64 1, .int .i64 1, .int .i64 0] 3)).alloc (.cells #[.int .i64 0, .int .i64 1, .int .i64 1] 3)).alloc (.cells #[.slice (some ⟨w.heap.size, 0, none⟩) 3 3, .slice (some ⟨w.heap.size + 1, 0, none⟩) 3 3] 33)
    RowsAt W (some ⟨w.heap.size + 2, 0, none⟩) awM ∧ Below w.heap.size w W ∧ W.heap.size = w.heap.size + 3 := by
  have i1 := ints_lit3 w 1 1 0 3
  have i2 := ints_lit3 (w.alloc (.cells #[.int .i64 1, .int .i64 1, .int .i64 0] 3)) 0 1 1 3
  have b2 : ∀ o, Below (w.alloc (.cells #[.int .i64 1, .int .i64 1, .int .i64 0] 3)).heap.size (w.alloc (.cells #[.int .i64 1, .int .i64 1, .int .i64 0] 3)) ((w.alloc (.cells #[.int .i64 1, .int .i64 1, .int .i64 0] 3)).alloc o) := fun o => (Below.refl _ _).alloc (Nat.le_refl _) _
  have h := rows_two (c1 := 3) (c2 := 3) 33 rfl rfl (by decide) (by decide) (i1.below (b2 _)) i2
  simp only [World.size_alloc] at h
  exact ⟨h, ((((Below.refl _ _).alloc (Nat.le_refl _) _).alloc (by simp) _).alloc (by simp; omega) _), by simp⟩
theorem awP_rows (w : World) : let W := (((w.alloc (.cells #[.int .i64 0, .int .i64 0, .int .i64 0] 3)).alloc (.cells #[.int .i64 0, .int .i64 5, .int .i64 0] 3)).alloc (.cells #[.int .i64 0, .int .i64 5, .int .i64 2] 3)).alloc (.cells #[.slice (some ⟨w.heap.size, 0, none⟩) 3 3, .slice (some ⟨w.heap.size + 1, 0, none⟩) 3 3, .slice (some ⟨w.heap.size + 2, 0, none⟩) 3 3] 33)
    RowsAt W (some ⟨w.heap.size + 3, 0, none⟩) awP ∧ Below w.heap.size w W ∧ W.heap.size = w.heap.size + 4 := by
  obtain ⟨w1, hw1⟩ : ∃ w1, w1 = w.alloc (.cells #[.int .i64 0, .int .i64 0, .int .i64 0] 3) := ⟨_, rfl⟩
  have i1 := ints_lit3 w 0 0 0 3
  rw [← hw1] at i1 ⊢
  have i2 := ints_lit3 w1 0 5 0 3
  have s1 : w1.heap.size = w.heap.size + 1 := by rw [hw1]; simp
  obtain ⟨w2, hw2⟩ : ∃ w2, w2 = w1.alloc (.cells #[.int .i64 0, .int .i64 5, .int .i64 0] 3) := ⟨_, rfl⟩
  rw [← hw2] at i2 ⊢
  have b1 : Below w.heap.size w w1 := by rw [hw1]; exact (Below.refl _ _).alloc (Nat.le_refl _) _
  have b2 : Below w1.heap.size w1 w2 := by rw [hw2]; exact (Below.refl _ _).alloc (Nat.le_refl _) _
  have s2 : w2.heap.size = w.heap.size + 2 := by rw [hw2]; simp [s1]
  have i3 := ints_lit3 w2 0 5 2 3
  obtain ⟨w3, hw3⟩ : ∃ w3, w3 = w2.alloc (.cells #[.int .i64 0, .int .i64 5, .int .i64 2] 3) := ⟨_, rfl⟩
  rw [← hw3] at i3 ⊢
  have b3 : Below w2.heap.size w2 w3 := by rw [hw3]; exact (Below.refl _ _).alloc (Nat.le_refl _) _
  have s3 : w3.heap.size = w.heap.size + 3 := by rw [hw3]; simp [s2]
  rw [s1] at i2
  rw [s2] at i3
  have h := rows_three (c1 := 3) (c2 := 3) (c3 := 3) 33 rfl rfl rfl (by decide) (by decide) (by decide) ((i1.below b2).below b3) (i2.below b3) i3
  rw [s3] at h
  exact ⟨h, (chain (chain b1 b2) b3).alloc (by omega) _, by simp [s3]⟩

theorem awake8_c (w : World) : Calls Tryz.prog 8 #[] w fun e w' => e = .returned (.bool true) ∧ Below w.heap.size w w' := by
  obtain ⟨hM, hbA, hsA⟩ := awM_rows w
  obtain ⟨wA, hA⟩ : ∃ wA, wA = ((w.alloc (.cells #[.int .i64 1, .int .i64 1, .int .i64 0] 3)).alloc (.cells #[.int .i64 0, .int .i64 1, .int .i64 1] 3)).alloc (.cells #[.slice (some ⟨w.heap.size, 0, none⟩) 3 3, .slice (some ⟨w.heap.size + 1, 0, none⟩) 3 3] 33) := ⟨_, rfl⟩
  rw [← hA] at hM hbA hsA
  obtain ⟨hP, hbB, hsB⟩ := awP_rows wA
  obtain ⟨wB, hB⟩ : ∃ wB, wB = (((wA.alloc (.cells #[.int .i64 0, .int .i64 0, .int .i64 0] 3)).alloc (.cells #[.int .i64 0, .int .i64 5, .int .i64 0] 3)).alloc (.cells #[.int .i64 0, .int .i64 5, .int .i64 2] 3)).alloc (.cells #[.slice (some ⟨wA.heap.size, 0, none⟩) 3 3, .slice (some ⟨wA.heap.size + 1, 0, none⟩) 3 3, .slice (some ⟨wA.heap.size + 2, 0, none⟩) 3 3] 33) := ⟨_, rfl⟩
  rw [← hB] at hP hbB hsB
  have hMB := hM.below hbB
  have hbW := chain hbA hbB
  have hEN := sEncode_c wB (some ⟨w.heap.size + 2, 0, none⟩) (some ⟨wA.heap.size + 3, 0, none⟩) 2 2 3 3 awM awP 3 rfl (by decide) hMB rfl (by decide) hP
  rw [hsA] at hEN
  have HSE := hid (fun (X : World) (hX : Below wB.heap.size wB X) => sSent_c X (some ⟨w.heap.size + 2, 0, none⟩) (some ⟨wA.heap.size + 3, 0, none⟩) 2 2 3 3 awM awP 3 1 rfl (by decide) (hMB.below hX) rfl (by decide) (hP.below hX))
  rw [aw_sent.1, aw_sent.2, hsA] at HSE
  rw [aw_enc.1, aw_enc.2] at hEN
  have HEN := hid hEN
  have HBW := hid hbW
  have HSB := hid hsB
  have HSA := hid hsA
  have hBB := hB
  rw [hA] at hBB
  simp only [World.size_alloc] at hBB
  have HB := hid hBB
  clear hM hbA hsA hP hbB hsB hMB hbW hEN hA hB hBB
  go_enter Tryz.func8, Tryz.ntmps8
  go_wp2_with fail
  rw [← HB.out]
  refine (show Calls Tryz.prog _ _ wB _ from HEN.out.mono ?_)
  rintro e w1 ⟨hb1, ⟨h, _⟩ | ⟨_, v, base, rfl, hbs, hO⟩⟩
  · exact absurd rfl h
  obtain ⟨fa, fc, rfl, hfm, hfr⟩ := hO.reads
  have HFR := hid hfr
  have HB1 := hid hb1
  clear hO hfr hfm hb1 HEN HB
  go_wp2_with (go_at_call 9; refine (HSE.out w1 HB1.out).mono ?_; rintro e w2 ⟨rfl, hb2⟩; refine Stop.of ?_)
  refine Stop.go ?_
  obtain ⟨fb, fo, ra, rn, rc, rfl, hfb, hf0, hf1, hrn, hrm, hri⟩ := (HFR.out.below hb2) 2 (by decide)
  have hrn2 : rn = 2 := hrn.symm
  subst hrn2
  have hB2 := chain HB1.out hb2
  have hb5 : Below w2.heap.size w2 (w2.alloc (.cells #[.int .i64 0, .int .i64 2] 3)) := (Below.refl _ _).alloc (Nat.le_refl _) _
  have HSI := hid (s8Ints_c (w2.alloc (.cells #[.int .i64 0, .int .i64 2] 3)) ra (some ⟨w2.heap.size, 0, none⟩) 2 rc 2 2 [0, 2] [0, 2] rfl rfl (by decide) (by decide) (hri.below hb5) (ints_lit2 w2 0 2 3))
  have hd : decide (([0, 2] : List Int) = [0, 2]) = true := by decide
  rw [hd] at HSI
  have HB5 := hid (chain HBW.out (chain hB2 hb5))
  clear hB2 hb5 hd hri hrn hb2
  go_wp2_with (go_at_call 22; refine HSI.out.mono ?_; rintro e w7 ⟨rfl, k7, rfl⟩)
  go_ret
  exact ⟨rfl, below_drewN HB5.out k7⟩
end Go.Proofs.YtkmjeegnijohmaaGreat

namespace Go.Proofs.YtkmjeegnijohmaaGreat
open Go.RowKit
set_option linter.unusedVariables false

theorem frames_nil {W : World} {a : Option Addr} : FramesAt W a [] := fun j hj => by simp at hj

theorem s8Ints_t (W : World) (a a2 : Option Addr) (n cap cap2 : Nat) (l : List Int) (hn : l.length = n) (hm : n ≤ maxLen) (H : IntsAt W a l) (H2 : IntsAt W a2 l) :
    Calls Tryz.prog 22 #[.slice a n cap, .slice a2 n cap2] W fun e w' => e = .returned (.bool true) ∧ Below W.heap.size W w' :=
  (s8Ints_c W a a2 n cap n cap2 l l hn hn hm hm H H2).mono fun e w' ⟨h1, k, h2⟩ => ⟨by rw [h1]; simp, by rw [h2]; exact below_drewN (Below.refl _ _) _⟩
theorem s8Frames_t (W : World) (a a2 : Option Addr) (n cap cap2 : Nat) (l : List Frm) (hn : l.length = n) (hm : n ≤ maxLen) (H : FramesAt W a l) (H2 : FramesAt W a2 l) :
    Calls Tryz.prog 29 #[.slice a n cap, .slice a2 n cap2] W fun e w' => e = .returned (.bool true) ∧ Below W.heap.size W w' :=
  (s8Frames_c W a a2 n cap n cap2 l l hn hn hm hm H H2).mono fun e w' ⟨h1, k, h2⟩ => ⟨by rw [h1]; simp, by rw [h2]; exact below_drewN (Below.refl _ _) _⟩
end Go.Proofs.YtkmjeegnijohmaaGreat

namespace Go.Proofs.YtkmjeegnijohmaaGreat
open Go.RowKit
set_option linter.unusedVariables false

theorem validB_ok {M : Mask} {F : List Frm} (h : validB M F = true) : okM M = true ∧ 1 ≤ F.length ∧ F.length ≤ 60 ∧ ∀ f ∈ F, f.2.length ≤ 1000 := by
  unfold validB inB at h
  simp only [Bool.and_eq_true, decide_eq_true_eq, List.all_eq_true] at h
  obtain ⟨⟨⟨hM, h1⟩, _⟩, h2⟩ := h
  obtain ⟨_, _, h6, _, h10⟩ := okM_ok hM
  refine ⟨hM, by omega, by omega, fun f hf => ?_⟩
  have := h2 f hf
  unfold frB at this
  simp only [Bool.or_eq_true, Bool.and_eq_true, decide_eq_true_eq] at this
  rcases this with (h | ⟨_, h⟩) | ⟨_, h, _⟩
  · omega
  · have := (pic_bnd h).1; omega
  · omega

end Go.Proofs.YtkmjeegnijohmaaGreat

namespace Go.Proofs.YtkmjeegnijohmaaGreat
open Go.RowKit
set_option linter.unusedVariables false
attribute [local go_sem] Oper.semAt_some

def missTo (M : Mask) (k : Int) (F : List Frm) : Nat → List Int
  | 0 => []
  | t + 1 => missTo M k F t ++ (if decAt M k F (t + 1) = none then [(t : Int)] else [])
def missF (M : Mask) (k : Int) (F : List Frm) : List Int := missTo M k F F.length
theorem missTo_le (M : Mask) (k : Int) (F : List Frm) : ∀ t, (missTo M k F t).length ≤ t
  | 0 => by simp [missTo]
  | t + 1 => by
    have := missTo_le M k F t
    simp only [missTo, List.length_append]
    split <;> simp <;> omega
def askE (M : Mask) (F : List Frm) (k : Int) : Int := if validB M F = true then (if inB k 0 (colsM M) = true then 0 else 7) else 1

structure MissI (w w3 : World) (ob : Nat) (fp : Nat → Prop) (S : Nat → Prop) (L : List Int) (Z : World) : Prop where
  b : Below w.heap.size w Z
  f : Keep fp w3 Z
  o : ∃ v, Boxed Z ob 33 v ∧ Z.ownsRow (w3.heap.size + 2) 3 1 v L.length (L.map (Value.int .i64)) ∧ ∀ k, v.ownBlock = some k → ¬ S k ∧ k ≠ ob ∧ k ≠ w3.heap.size ∧ k ≠ w3.heap.size + 1
  z : w3.heap.size + 2 ≤ Z.heap.size

theorem own_keep2 {W W' : World} {base : Nat} {T : TypeId} {k n : Nat} {v : Value} {xs : List Value} (h : W.ownsRow base T k v n xs) {K : Nat → Prop} (hk : Keep K W W') (hK : ∀ g, v.ownBlock = some g → K g) : W'.ownsRow base T k v n xs := by
  refine ⟨h.1, ?_⟩
  rcases h.2 with hn | ⟨g, cap, cur, rfl, hbg, hgg, rest⟩
  · exact .inl hn
  · exact .inr ⟨g, cap, cur, rfl, hbg, (hk.block g (Array.getElem?_eq_some_iff.1 hgg).1 (hK g rfl)).trans hgg, rest⟩

theorem MissI.keep {w w3 : World} {ob : Nat} {fp S S' : Nat → Prop} {L : List Int} {A B : World} (h : MissI w w3 ob fp S L A) (h1 : ∀ k, S k → S' k) (h2 : ∀ k, S' k → S k ∨ A.heap.size ≤ k) (h3 : ∀ k, S' k → w3.heap.size + 2 ≤ k)
    (hob : ob < w3.heap.size) (hfp : ∀ k, fp k → k < w3.heap.size) (hw : w.heap.size ≤ w3.heap.size) (hk : Keep (fun k => k ≠ w3.heap.size ∧ k ≠ w3.heap.size + 1 ∧ ¬ S' k) A B) : MissI w w3 ob fp S' L B where
  b := by
    have hz := h.z
    exact hk.below h.b (Nat.le_trans hw (by omega)) (fun k hlt => ⟨by omega, by omega, fun hs => by have := h3 k hs; omega⟩)
  f := h.f.trans (hk.mono fun k hlt => by have := hfp k hlt; exact ⟨by omega, by omega, fun hs => by have := h3 k hs; omega⟩)
  o := by
    obtain ⟨v, hv, ho, hg⟩ := h.o
    have hg' : ∀ k, v.ownBlock = some k → ¬ S' k ∧ k ≠ ob ∧ k ≠ w3.heap.size ∧ k ≠ w3.heap.size + 1 := fun k hk' => by
      obtain ⟨g1, g2⟩ := hg k hk'
      refine ⟨fun hs => ?_, g2⟩
      rcases h2 k hs with g | g
      · exact g1 g
      · have := (ho.lt k hk').2; omega
    exact ⟨v, (hk.block ob hv.lt ⟨by omega, by omega, fun hs => by have := h3 _ hs; omega⟩).trans hv, own_keep2 ho hk (fun g hgk => ⟨(hg' g hgk).2.2.1, (hg' g hgk).2.2.2, (hg' g hgk).1⟩), hg'⟩
  z := Nat.le_trans h.z hk.size

theorem MissI.push {w w3 Z w9 : World} {ob : Nat} {fp Sr : Nat → Prop} {L : List Int} {v v' : Value} {x : Int} {o8 : Obj}
    (hI : MissI w w3 ob fp Sr L Z) (hBo : Boxed Z ob 33 v) (ho : Z.ownsRow (w3.heap.size + 2) 3 1 v L.length (L.map (Value.int .i64)))
    (hg : ∀ k, v.ownBlock = some k → ¬ Sr k ∧ k ≠ ob ∧ k ≠ w3.heap.size ∧ k ≠ w3.heap.size + 1)
    (g5 : (Z.alloc o8).grownBy w9 v.ownBlock) (own5 : w9.ownsRow (w3.heap.size + 2) 3 1 v' (L.length + 1) (L.map (Value.int .i64) ++ [.int .i64 x]))
    (hat : v'.ownBlock = v.ownBlock ∨ v'.ownBlock = some (Z.alloc o8).heap.size) (hSr : ∀ k, Sr k → w3.heap.size + 2 ≤ k ∧ k < Z.heap.size) (hob : ob < w3.heap.size) (hfp : ∀ k, fp k → k < w3.heap.size ∧ k ≠ ob) (hw : w.heap.size ≤ ob) :
    Z.heap.size ≤ (w9.setCell ⟨ob, 0, none⟩ v').heap.size ∧ (∀ k, (fp k ∨ k = w3.heap.size ∨ k = w3.heap.size + 1 ∨ Sr k) → (w9.setCell ⟨ob, 0, none⟩ v').heap[k]? = Z.heap[k]?) ∧ MissI w w3 ob fp Sr (L ++ [x]) (w9.setCell ⟨ob, 0, none⟩ v') := by
  have hz := hI.z
  have hlo : ∀ k, v.ownBlock = some k → w3.heap.size + 2 ≤ k := fun k hk => (ho.lt k hk).1
  have ha : Below Z.heap.size Z (Z.alloc o8) := (Below.refl _ _).alloc (Nat.le_refl _) _
  have hset : Keep (fun k => k ≠ ob) w9 (w9.setCell ⟨ob, 0, none⟩ v') := Keep.set w9 ob 0 v'
  have hT : Keep (fun k => k ≠ ob ∧ some k ≠ v.ownBlock) Z (w9.setCell ⟨ob, 0, none⟩ v') :=
    (Keep.of_below ha).trans (((Keep.grown g5).mono fun k hk => hk.2).trans (hset.mono fun k hk => hk.1))
  have hPk : ∀ k, (fp k ∨ k = w3.heap.size ∨ k = w3.heap.size + 1 ∨ Sr k) → k < Z.heap.size ∧ k ≠ ob ∧ some k ≠ v.ownBlock := fun k hk => by
    rcases hk with h | h | h | h
    · exact ⟨by have := (hfp k h).1; omega, (hfp k h).2, fun e => by have := hlo k e.symm; have := (hfp k h).1; omega⟩
    · exact ⟨by omega, by omega, fun e => (hg k e.symm).2.2.1 h⟩
    · exact ⟨by omega, by omega, fun e => (hg k e.symm).2.2.2 h⟩
    · exact ⟨(hSr k h).2, by have := (hSr k h).1; omega, fun e => (hg k e.symm).1 h⟩
  have hat' : ∀ k, v'.ownBlock = some k → ¬ Sr k ∧ k ≠ ob ∧ k ≠ w3.heap.size ∧ k ≠ w3.heap.size + 1 := fun k hk => by
    rcases hat with e | e
    · exact hg k (by rw [← e]; exact hk)
    · rw [e] at hk
      have : (Z.alloc o8).heap.size = Z.heap.size + 1 := by simp
      cases hk
      exact ⟨fun h => by have := (hSr _ h).2; omega, by omega, by omega, by omega⟩
  refine ⟨hT.size, fun k hk => hT.block k (hPk k hk).1 (hPk k hk).2, ⟨hT.below hI.b (by have := hI.b.size; omega) (fun k hlt => ⟨by omega, fun e => by have := hlo k e.symm; omega⟩), hI.f.trans (hT.mono fun k hk => (hPk k (.inl hk)).2), ⟨v', ?_, ?_, hat'⟩, Nat.le_trans hz hT.size⟩⟩
  · refine Boxed.set v' (v := v) ?_
    have h1 : Boxed (Z.alloc o8) ob 33 v := hBo.alloc _
    exact h1.kept g5 (fun e => (hg ob e.symm).2.1 rfl)
  · rw [List.length_append, List.map_append]
    exact own_set own5 v' (fun g hgk => (hat' g hgk).2.1)

theorem asked_c (w : World) (a a2 : Option Addr) (n cap n2 cap2 : Nat) (M : Mask) (F : List Frm) (k : Int) (hn : M.length = n) (hm : n ≤ maxLen) (H : RowsAt w a M) (hn2 : F.length = n2) (hm2 : n2 ≤ maxLen) (H2 : FramesAt w a2 F) :
    Calls Tryz.prog 39 #[.slice a n cap, .slice a2 n2 cap2, .int .i64 k] w fun e w' => e = .returned (.int .i64 (askE M F k)) ∧ Below w.heap.size w w' := by
  have HV := hid (svalid_c w a n cap M hn hm H a2 n2 cap2 F hn2 hm2 H2)
  cases hV : validB M F
  · have he : askE M F k = 1 := by unfold askE; rw [hV]; rfl
    rw [hV] at HV
    rw [he]
    clear hn H hn2 H2 hV he
    go_enter Tryz.func39, Tryz.ntmps39
    go_wp2_with (go_at_call 45; refine HV.out.mono ?_; rintro e w1 ⟨rfl, hb1⟩)
    go_ret
    exact ⟨rfl, hb1⟩
  · obtain ⟨_, h1, _, _, _⟩ := okM_ok (validB_ok hV).1
    obtain ⟨b, off, ra, rc, rfl, hb, hc⟩ := rows_head H (by omega)
    have i0 : (0 : Int) < (n : Int) := by omega
    have HC0 := hid (show ∀ X : World, Below w.heap.size w X → X.cell? ⟨b, off, none⟩ = some (.slice ra (colsM M) rc) from fun X hX => (hX.cell (p := ⟨b, off, none⟩) hb).trans hc)
    have HT := hid (fun X => swithin_c k 0 (colsM M) X)
    have he : askE M F k = if inB k 0 (colsM M) = true then 0 else 7 := by unfold askE; rw [hV]; rfl
    rw [hV] at HV
    rw [he]
    obtain ⟨W, hW⟩ : ∃ W, W = colsM M := ⟨_, rfl⟩
    rw [← hW] at HT HC0 ⊢
    obtain ⟨B, hB⟩ : ∃ B, B = inB k 0 (W : Int) := ⟨_, rfl⟩
    rw [← hB] at HT ⊢
    clear hn H hn2 H2 hV he hc hW hB
    cases B
    all_goals
      go_enter Tryz.func39, Tryz.ntmps39
      go_wp2_with first
        | (go_at_call 45; refine HV.out.mono ?_; rintro e w1 ⟨rfl, hb1⟩; have hc1' := HC0.out w1 hb1)
        | (go_at_call 32; refine (HT.out _).mono ?_; rintro e w2 ⟨rfl, rfl⟩)
      go_ret
      exact ⟨rfl, hb1⟩
end Go.Proofs.YtkmjeegnijohmaaGreat

namespace Go.Proofs.YtkmjeegnijohmaaGreat
open Go.RowKit
set_option linter.unusedVariables false
attribute [local go_sem] Oper.semAt_some

theorem missTo_snoc (M : Mask) (k : Int) (F : List Frm) (pre : List Nat) {t : Nat} (h : pre ++ [t] <+: List.range F.length) : pre = List.range t ∧ t < F.length := by
  have ht : t < F.length := List.mem_range.1 (h.subset (List.mem_append_right _ (List.mem_singleton.2 rfl)))
  obtain ⟨r, hr⟩ := h
  have hl : pre.length = t := by
    have h1 : (List.range F.length)[pre.length]? = some t := by rw [← hr]; simp
    have h2 := (List.getElem?_eq_some_iff.1 h1).2
    rw [List.getElem_range] at h2; exact h2
  refine ⟨?_, ht⟩
  have h3 : pre = (List.range F.length).take pre.length := by rw [← hr]; simp
  rw [h3, hl, List.take_range]
  congr 1; omega

set_option maxRecDepth 100000 in
set_option maxHeartbeats 1000000 in
theorem missing_c (w : World) (a a2 : Option Addr) (n cap n2 cap2 : Nat) (M : Mask) (F : List Frm) (k : Int) (hn : M.length = n) (hn2 : F.length = n2) (hm : n ≤ maxLen) (H : RowsAt w a M) (H2 : FramesAt w a2 F) (hV : validB M F = true) :
    Calls Tryz.prog 43 #[.slice a n cap, .slice a2 n2 cap2, .int .i64 k] w fun e w' => ∃ v base, e = .returned v ∧ w.heap.size ≤ base ∧ w'.ownsRow base 3 1 v (missF M k F).length ((missF M k F).map (Value.int .i64)) ∧ Below w.heap.size w w' := by
  have heq := fun (w : World) (a : Option Addr) (n c : Nat) => Lib.run_eql_slice_nil (P := Tryz.prog) w 33 3 a n c 0 0 Tryz.underlying33
  obtain ⟨hM, h1, h60, _⟩ := validB_ok hV
  have hfv : ∀ f ∈ F, frB M f = true := by
    unfold validB at hV
    simp only [Bool.and_eq_true, List.all_eq_true] at hV
    exact hV.2
  have HMF := hid (show missF M k F = missTo M k F n2 by unfold missF; rw [hn2])
  have HML := hid (fun t => missTo_le M k F t)
  have HMT := hid (show ∀ t, missTo M k F (t + 1) = missTo M k F t ++ (if decAt M k F (t + 1) = none then [(t : Int)] else []) from fun t => rfl)
  have HPR := hid (fun (pre : List Nat) (t : Nat) (h : pre ++ [t] <+: List.range n2) => missTo_snoc M k F pre (by rw [hn2]; exact h))
  have hn60 : n2 ≤ 60 := by omega
  obtain ⟨w1, hw1⟩ : ∃ w1, w1 = w.alloc (.cells #[.slice none 0 0] 33) := ⟨_, rfl⟩
  have hb1 : Below w.heap.size w w1 := by rw [hw1]; exact (Below.refl _ _).alloc (Nat.le_refl _) _
  have bx : Boxed w1 w.heap.size 33 (.slice none 0 0) := by rw [hw1]; exact Boxed.new w _ _
  have hs1 : w1.heap.size = w.heap.size + 1 := by rw [hw1]; simp
  obtain ⟨w3, hw3⟩ : ∃ w3, w3 = ((w1.alloc (.cells #[.slice a n cap] 23)).alloc (.cells #[.slice a2 n2 cap2] 37)).alloc (.cells #[.int .i64 k] 3) := ⟨_, rfl⟩
  have c1 : Boxed w3 w1.heap.size 23 (.slice a n cap) := by rw [hw3]; exact ((Boxed.new w1 _ _).alloc _).alloc _
  have c2 : Boxed w3 (w1.heap.size + 1) 37 (.slice a2 n2 cap2) := by rw [hw3]; have := (Boxed.new (w1.alloc (.cells #[.slice a n cap] 23)) 37 (.slice a2 n2 cap2)).alloc (.cells #[.int .i64 k] 3); simpa using this
  have c3 : Boxed w3 (w1.heap.size + 2) 3 (.int .i64 k) := by rw [hw3]; have := Boxed.new ((w1.alloc (.cells #[.slice a n cap] 23)).alloc (.cells #[.slice a2 n2 cap2] 37)) 3 (.int .i64 k); simpa using this
  have hs3 : w3.heap.size = w1.heap.size + 3 := by rw [hw3]; simp
  have hb3 : Below w1.heap.size w1 w3 := by rw [hw3]; exact (((Below.refl _ _).alloc (Nat.le_refl _) _).alloc (by simp) _).alloc (by simp; omega) _
  have hB3 : Below w.heap.size w w3 := chain hb1 hb3
  have bx3 : Boxed w3 w.heap.size 33 (.slice none 0 0) := (hb3.block _ (by omega)).trans bx
  obtain ⟨fp, hfp⟩ : ∃ fp : Nat → Prop, fp = fun q => q < w3.heap.size ∧ q ≠ w.heap.size := ⟨_, rfl⟩
  have hIT := dec_iter w3 fp (w1.heap.size + 1) w1.heap.size (w1.heap.size + 2) a a2 n cap n2 cap2 M F k hn hM hn2 (by omega) hfv (by rw [hfp]; exact fun q h => h.1)
    (fun X hX hq => by
      rw [hfp] at hq
      have hqq : ∀ q, q < w.heap.size → X.heap[q]? = w.heap[q]? := fun q hlt => (hq q ⟨by omega, by omega⟩).trans (hB3.block q hlt)
      refine ⟨⟨RowsAt.blk H hqq, ?_⟩, cell_blk c2.cell (hq _ ⟨by omega, by omega⟩), cell_blk c1.cell (hq _ ⟨by omega, by omega⟩), cell_blk c3.cell (hq _ ⟨by omega, by omega⟩)⟩
      intro j hj
      obtain ⟨b, off, ra, rn, rc, e, hlt, k0, k1, hn', hm', hi⟩ := H2 j hj
      refine ⟨b, off, ra, rn, rc, e, lt_blk hlt (hqq b hlt), cell_blk k0 (hqq b hlt), cell_blk k1 (hqq b hlt), hn', hm', hi.blk hqq⟩)
  rw [hs1] at hIT hs3
  have HIT := hid hIT
  have HFP := hid hfp
  have HB3 := hid hB3
  have HS3 := hid hs3
  have BX3 := hid bx3
  have hww : w3 = (((w.alloc (.cells #[.slice none 0 0] 33)).alloc (.cells #[.slice a n cap] 23)).alloc (.cells #[.slice a2 n2 cap2] 37)).alloc (.cells #[.int .i64 k] 3) := by rw [hw3, hw1]
  have HWW := hid hww
  have hdc := decoded_c w1 a a2 n cap n2 cap2 k
  rw [hs1, hw1] at hdc
  have HDC := hid hdc
  clear hn hn2 hm H H2 hV hfv hM h1 h60 hw1 hb1 bx hs1 hw3 c1 c2 c3 hs3 hb3 hB3 bx3 hfp hIT hww hdc
  obtain ⟨i0, hi0, hz0, hz1, hz2⟩ := info_parts li_int
  refine callsIn_wide (n := 0) |>.1 ?_
  refine callsIn_of_wp_marks Tryz.func43 rfl trivial ?_ rfl
  simp only [Tryz.ntmps43, List.size_toArray, List.length_cons, List.length_nil, Nat.reduceAdd, Nat.reduceSub, Array.replicate_succ, Array.replicate_zero, List.push_toArray, List.append_toArray, List.nil_append, List.cons_append]
  gi_wp2_with (refine ⟨trivial, rfl, ?_⟩; gi_at_call 40; refine (callsIn_wide.2 HDC.out).mono ?_; rintro e w' ⟨rfl, hw'⟩; rw [← HWW.out] at hw'; have hw2 := hw'.symm; clear hw'; subst hw2; refine Stop.of ?_)
  refine Stop.go ?_
  gi_wp2
  refine range_p (gf := 61) (lb := #[.pointer (some ⟨w.heap.size + 1 + 1, 0, none⟩), .pointer (some ⟨w.heap.size + 1, 0, none⟩), .pointer (some ⟨w.heap.size + 1 + 2, 0, none⟩)]) (xs := List.range n2) (fp := fp) (V := DecV M k F) rfl (enters_of Tryz.func61 (by kernel_rfl) rfl)
    HIT.out (Below.refl _ _) (by rw [HFP.out]; exact fun q h => h.1)
    (fun Sr pre Z => MissI w w3 w.heap.size fp Sr (missTo M k F pre.length) Z)
    (fun _ _ _ _ => False) ?hI (fun _ _ _ _ _ _ h => h.elim) ?hV ?h0
    (fun v u a' Z => a' = { tmps := #[.slice a n cap, .slice a2 n2 cap2, .int .i64 k, undef, undef, undef, .slice none 0 0, .pointer (some ⟨w.heap.size, 0, none⟩), v, u, .slice a n cap, .slice a2 n2 cap2, .int .i64 k, .func (.func 61) #[] #[.pointer (some ⟨w.heap.size + 1 + 1, 0, none⟩), .pointer (some ⟨w.heap.size + 1, 0, none⟩), .pointer (some ⟨w.heap.size + 1 + 2, 0, none⟩)], v, u, undef, undef, undef, undef, undef, undef, undef], defers := [] }) ?hAx ?hassign ?hbody ?hdone ?hstop
  case hI =>
    intro Sr Sr' s A B hIA h1 h2 h3 h4 hk
    have hs := HS3.out
    exact hIA.keep h1 h2 h3 (by omega) (by rw [HFP.out]; exact fun q h => h.1) (HB3.out.size) hk
  case hV =>
    intro Sr x v u A B hv hk
    exact hv.keep hk (fun q hq => ⟨by omega, by omega⟩)
  case h0 =>
    intro Z hk hZ
    have hs := HS3.out
    exact ⟨hk.below HB3.out HB3.out.size (fun q hq => by show q < w3.heap.size; omega), hk.mono (by rw [HFP.out]; exact fun q h => h.1), ⟨_, (hk.block _ BX3.out.lt (by show w.heap.size < w3.heap.size; omega)).trans BX3.out, World.ownsRow_nil _ _ _ _, fun q hq => by simp [Value.ownBlock] at hq⟩, hZ⟩
  case hAx =>
    intro v u a' A B h _
    exact h
  case hassign =>
    rintro l Sr x v u Z K hZ hv hK
    gi_wp2
    exact hK _ _ (Below.refl _ _) rfl
  case hbody =>
    rintro l' Sr pre t _ u _ Z hpre hSr hI ⟨rfl, ho⟩ rfl hZ hDo hLo
    obtain ⟨hpr, ht⟩ := HPR.out pre t hpre
    have hlen : pre.length = t := by rw [hpr]; simp
    have hlen1 : (pre ++ [t]).length = t + 1 := by rw [List.length_append, hlen]; rfl
    rw [hlen] at hI
    have HL1 := hid hlen1
    have hmt := HMT.out t
    have HI := hid hI
    have HSR := hid hSr
    rcases ho with ⟨hno, rfl⟩ | ⟨x, b, c, hx, rfl, hxb, hxS, hxs, hx1, hxm⟩
    · rw [if_pos hno] at hmt
      obtain ⟨v, hvb, hvo, hvg⟩ := hI.o
      have hbc := hvb.cell
      have hbf := hvb.frozen
      have hbl := hvb.lt
      have HVB := hid hvb
      have HVO := hid hvo
      have HVG := hid hvg
      have HMT2 := hid hmt
      have hml := HML.out t
      obtain ⟨L, hL⟩ : ∃ L, L = missTo M k F t := ⟨_, rfl⟩
      rw [← hL] at HVO hml HI HMT2
      have M1 := hid (show L.length + 1 ≤ maxLen by unfold maxLen; rw [HPR.out pre t hpre |>.1] at hpre; have := (HPR.out _ t hpre).2; have hq : t < n2 := List.mem_range.1 (hpre.subset (List.mem_append_right _ (List.mem_singleton.2 rfl))); omega)
      have M2 := hid (show (L.length + 1) * 8 ≤ 140737488355328 by have hq : t < n2 := List.mem_range.1 (hpre.subset (List.mem_append_right _ (List.mem_singleton.2 rfl))); omega)
      have M3 := hid (show w3.heap.size + 2 ≤ (Z.alloc (.cells #[.int .i64 (t : Int)] 3)).heap.size by simp; omega)
      clear hno hmt hI hvb hvo hvg hL hpr hlen hlen1 hpre hSr hDo hLo hml
      gi_wp2_with (gi_at_builtin; go_loud (refine wpListIn_append_own_at _ rfl _ _ 33 rfl (w3.heap.size + 2) 3 i0 (.int .i64 0) 1 8 Tryz.underlying33 hi0 hz0 hz1 hz2 rfl (by decide) v _ _ rfl (HVO.out.alloc _) ⟨Z.heap.size, 0, none⟩ 1 1 [.int .i64 t] rfl rfl (one_news Z _ _ _ rfl) (li_one _) M1.out M2.out M3.out ?_; refine Stop.of ?_))
      refine Stop.go ?_
      intro v5 w9 own5 g5 _ hat5
      obtain ⟨a5, c5, rfl⟩ := ownsRow_slice own5
      have hb9 : Boxed w9 w.heap.size 33 v := (HVB.out.alloc _).kept g5 (fun e => (HVG.out _ e.symm).2.1 rfl)
      have hc9 := hb9.cell
      have hf9 := hb9.frozen
      have hl9 := hb9.lt
      have hs := HS3.out
      have hpush := MissI.push HI.out HVB.out HVO.out HVG.out g5 own5 (by rw [World.size_alloc]; exact hat5) HSR.out (by omega) (by rw [HFP.out]; exact fun q h => h) (Nat.le_refl _)
      have HPU := hid hpush
      clear hb9 hpush own5 g5 hat5
      gi_wp2
      obtain ⟨r1, r2, r3⟩ := HPU.out
      refine ⟨r1, r2, ?_⟩
      show MissI w w3 w.heap.size fp Sr (missTo M k F (pre ++ [t]).length) _
      rw [HL1.out, HMT2.out]
      exact r3
    · rw [if_neg (by rw [hx]; simp), List.append_nil] at hmt
      have HMT2 := hid hmt
      clear hmt hI hpr hlen hlen1 hpre hSr hDo hLo hx hxb hxS hxs hx1 hxm
      gi_wp2
      refine ⟨Nat.le_refl _, fun _ _ => rfl, ?_⟩
      show MissI w w3 w.heap.size fp Sr (missTo M k F (pre ++ [t]).length) _
      rw [HL1.out, HMT2.out]
      exact HI.out
  case hdone =>
    intro Sr Z hZ hSr hI hmk
    rw [List.length_range] at hI
    obtain ⟨v, hvb, hvo, hvg⟩ := hI.o
    have hcv := hvb.cell
    have HI := hid hI
    have HVO := hid hvo
    have HVG := hid hvg
    have HMR := hid hmk
    clear hI hvb hvo hvg hmk hSr
    gi_wp2
    refine marks_leave [w3.heap.size] Z (by simp) (fun h hh => by rw [List.mem_singleton.1 hh]; exact HMR.out) fun w' hk => ?_
    refine ⟨_, results_tmp rfl _ _ _, v, w3.heap.size + 2, rfl, by have := HB3.out.size; omega, ?_, hk.below HI.out.b HI.out.b.size (fun q hq hh => by rw [List.mem_singleton.1 hh] at hq; have := HB3.out.size; omega)⟩
    rw [HMF.out]
    exact own_keep2 HVO.out hk (fun g hgk hh => (HVG.out g hgk).2.2.1 (List.mem_singleton.1 hh))
  case hstop =>
    intro Sr c pre Z hpre hSr hI hmk
    exact hI.elim
end Go.Proofs.YtkmjeegnijohmaaGreat

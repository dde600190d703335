/- Walks and plain laws for StreamEncodesRow, part 7. -/
import Derived.Test.YtkmjeegnijohmaaPkStreamEncodesRow6
namespace Go.Proofs.Ytkmjeegnijohmaa
open Go.RowKit
set_option linter.unusedVariables false

theorem s8Ints_c (w : World) (a a2 : Option Addr) (n cap n2 cap2 : Nat) (l l2 : List Int) (hn : l.length = n) (hn2 : l2.length = n2) (hm : n ≤ maxLen) (hm2 : n2 ≤ maxLen) (H : IntsAt w a l) (H2 : IntsAt w a2 l2) :
    Calls Try.prog 21 #[.slice a n cap, .slice a2 n2 cap2] w fun e w' => e = .returned (.bool (decide (l = l2))) ∧ ∃ k, w' = w.drewN k := by
  have HN := hid hn
  have HN2 := hid hn2
  have HH := hid H
  have HH2 := hid H2
  clear hn hn2 H H2
  unfold maxLen at hm hm2
  by_cases hl : n = n2
  · have hd : ((n : Int) != (n2 : Int)) = false := by simp [hl]
    have HL := hid hl
    clear hl
    go_enter Try.func21, Try.ntmps21
    go_wp2
    go_loopw [13] (fun i wr => ∃ k : Nat, k ≤ n ∧ i = .int .i64 k ∧ (∃ q, wr = w.drewN q) ∧ ∀ j (hj : j < l.length) (hj2 : j < l2.length), j < k → l[j] = l2[j]) (fun i _ => n - (intOf i).toNat)
    case atStart => exact ⟨0, Nat.zero_le _, rfl, ⟨0, rfl⟩, fun i _ _ h => by omega⟩
    case round =>
      obtain ⟨k, hk, rfl, ⟨q, rfl⟩, hno⟩ := hrel
      have HNO := hid hno
      clear hno
      by_cases hlt : k < n
      · have hkl : k < l.length := by rw [HN.out]; exact hlt
        have hkl2 : k < l2.length := by rw [HN2.out, ← HL.out]; exact hlt
        obtain ⟨b, off, rfl, hbs, hc⟩ := HH.out k hkl
        obtain ⟨b2, off2, rfl, hbs2, hc2⟩ := HH2.out k hkl2
        have hg : l[k]?.getD 0 = l[k] := by rw [List.getElem?_eq_getElem hkl]; rfl
        have hg2 : l2[k]?.getD 0 = l2[k] := by rw [List.getElem?_eq_getElem hkl2]; rfl
        rw [hg] at hc
        rw [hg2] at hc2
        have hlt2 : k < n2 := by have := HL.out; omega
        have HKL := hid hkl
        have HKL2 := hid hkl2
        clear hg hg2
        by_cases he : l[k] = l2[k]
        · have hb : (l[k] != l2[k]) = false := by simp [he]
          have HE := hid he
          clear he
          go_wp2
          go_quiet (fail)
          go_wp2
          refine ⟨⟨k + 1, by omega, by go_num, ⟨_, rfl⟩, fun j hj hj2 hjk => ?_⟩, by simp [intOf]; omega⟩
          by_cases e : j = k
          · subst e; exact HE.out
          · exact HNO.out j hj hj2 (by omega)
        · have hb : (l[k] != l2[k]) = true := by simp [he]
          have HE := hid he
          clear he
          go_wp2
          go_quiet (fail)
          go_wp2
          go_ret
          refine ⟨ret_bool ?_, q + nq, drewN_add _ _ _⟩
          symm
          rw [decide_eq_false_iff_not]
          rintro rfl
          exact HE.out rfl
      · go_wp2
        go_ret
        refine ⟨ret_bool ?_, _, rfl⟩
        symm
        rw [decide_eq_true_iff]
        have h1 := HN.out
        have h2 := HN2.out
        have h3 := HL.out
        exact List.ext_getElem (by omega) fun i g1 g2 => HNO.out i g1 g2 (by omega)
  · have hd : ((n : Int) != (n2 : Int)) = true := by simp; omega
    have HL := hid hl
    clear hl
    go_enter Try.func21, Try.ntmps21
    go_wp2
    go_ret
    refine ⟨ret_bool ?_, 0, rfl⟩
    symm
    rw [decide_eq_false_iff_not]
    rintro rfl
    exact HL.out (HN.out.symm.trans HN2.out)

set_option maxHeartbeats 2000000 in
theorem s8Frames_c (w : World) (a a2 : Option Addr) (n cap n2 cap2 : Nat) (A B : List Frm) (hn : A.length = n) (hn2 : B.length = n2) (hm : n ≤ maxLen) (hm2 : n2 ≤ maxLen) (H : FramesAt w a A) (H2 : FramesAt w a2 B) :
    Calls Try.prog 20 #[.slice a n cap, .slice a2 n2 cap2] w fun e w' => e = .returned (.bool (decide (A = B))) ∧ ∃ k, w' = w.drewN k := by
  have HN := hid hn
  have HN2 := hid hn2
  have HH := hid H
  have HH2 := hid H2
  clear hn hn2 H H2
  unfold maxLen at hm hm2
  by_cases hl : n = n2
  · have hd : ((n : Int) != (n2 : Int)) = false := by simp [hl]
    have HL := hid hl
    clear hl
    go_enter Try.func20, Try.ntmps20
    go_wp2
    go_loopw [13] (fun i wr => ∃ k : Nat, k ≤ n ∧ i = .int .i64 k ∧ (∃ q, wr = w.drewN q) ∧ ∀ j (hj : j < A.length) (hj2 : j < B.length), j < k → A[j] = B[j]) (fun i _ => n - (intOf i).toNat)
    case atStart => exact ⟨0, Nat.zero_le _, rfl, ⟨0, rfl⟩, fun i _ _ h => by omega⟩
    case round =>
      obtain ⟨k, hk, rfl, hq, hno⟩ := hrel
      have hbw : Below w.heap.size w wr := by obtain ⟨q, rfl⟩ := hq; exact below_drewN (Below.refl _ _) q
      have HQ := hid hq
      have HNO := hid hno
      clear hno hq
      by_cases hlt : k < n
      · have hkl : k < A.length := by rw [HN.out]; exact hlt
        have hkl2 : k < B.length := by rw [HN2.out, ← HL.out]; exact hlt
        obtain ⟨b, off, ra, rn, rc, rfl, hbs, hc0, hc, hrn, hrm, hri⟩ := (HH.out.below hbw) k hkl
        obtain ⟨b', off', ra', rn', rc', rfl, hbs', hc0', hc', hrn', hrm', hri'⟩ := (HH2.out.below hbw) k hkl2
        obtain ⟨⟨p, x⟩, hp⟩ : ∃ r, r = A[k]'hkl := ⟨_, rfl⟩
        obtain ⟨⟨q, y⟩, hq⟩ : ∃ r, r = B[k]'hkl2 := ⟨_, rfl⟩
        rw [← hp] at hc0 hrn hri
        rw [← hq] at hc0' hrn' hri'
        simp only [] at hc0 hrn hri hc0' hrn' hri'
        have HI := hid (fun q2 => s8Ints_c (wr.drewN q2) ra ra' rn rc rn' rc' x y hrn hrn' hrm hrm' (hri.below (below_drewN (Below.refl _ _) q2)) (hri'.below (below_drewN (Below.refl _ _) q2)))
        have hlt2 : k < n2 := by have := HL.out; omega
        have HKL := hid hkl
        have HKL2 := hid hkl2
        have HP := hid hp
        have HQQ := hid hq
        clear hri hri' hrn hrn' hp hq
        by_cases hpq : p = q
        · have hb : (!(p == q)) = false := by simp [hpq]
          have HPQ := hid hpq
          clear hpq
          by_cases he : x = y
          · have HE := hid he
            have HS := hid (fun q2 => (HI.out q2).mono fun e w' ⟨h1, h2⟩ => show e = Ending.returned (.bool true) ∧ ∃ k, w' = (wr.drewN q2).drewN k from ⟨h1.trans (ret_bool (decide_eq_true he)), h2⟩)
            clear he HI
            go_wp2
            go_quiet ((go_at_call 21; exact Calls.quiet_of (HS.out _)))
            go_wp2
            refine ⟨⟨k + 1, by omega, by go_num, (by obtain ⟨q, e⟩ := HQ.out; exact ⟨_, by rw [e, drewN_add]⟩), fun j hj hj2 hjk => ?_⟩, by simp [intOf]; omega⟩
            by_cases e : j = k
            · subst e; exact HP.out.symm.trans ((Prod.ext HPQ.out HE.out).trans HQQ.out)
            · exact HNO.out j hj hj2 (by omega)
          · have HE := hid he
            have HS := hid (fun q2 => (HI.out q2).mono fun e w' ⟨h1, h2⟩ => show e = Ending.returned (.bool false) ∧ ∃ k, w' = (wr.drewN q2).drewN k from ⟨h1.trans (ret_bool (decide_eq_false he)), h2⟩)
            clear he HI
            go_wp2
            go_quiet ((go_at_call 21; exact Calls.quiet_of (HS.out _)))
            go_wp2
            go_ret
            refine ⟨ret_bool ?_, (by obtain ⟨q, e⟩ := HQ.out; exact ⟨_, by rw [e, drewN_add]⟩)⟩
            symm
            rw [decide_eq_false_iff_not]
            intro h
            subst h
            exact HE.out (congrArg Prod.snd (HP.out.trans HQQ.out.symm))
        · have hb : (!(p == q)) = true := by simp [hpq]
          have HPQ := hid hpq
          clear hpq HI
          go_wp2
          go_quiet (fail)
          go_wp2
          go_ret
          refine ⟨ret_bool ?_, (by obtain ⟨q, e⟩ := HQ.out; exact ⟨_, by rw [e, drewN_add]⟩)⟩
          symm
          rw [decide_eq_false_iff_not]
          intro h
          subst h
          exact HPQ.out (congrArg Prod.fst (HP.out.trans HQQ.out.symm))
      · go_wp2
        go_ret
        refine ⟨ret_bool ?_, HQ.out⟩
        symm
        rw [decide_eq_true_iff]
        have h1 := HN.out
        have h2 := HN2.out
        have h3 := HL.out
        exact List.ext_getElem (by omega) fun i g1 g2 => HNO.out i g1 g2 (by omega)
  · have hd : ((n : Int) != (n2 : Int)) = true := by simp; omega
    have HL := hid hl
    clear hl
    go_enter Try.func20, Try.ntmps20
    go_wp2
    go_ret
    refine ⟨ret_bool ?_, 0, rfl⟩
    symm
    rw [decide_eq_false_iff_not]
    rintro rfl
    exact HL.out (HN.out.symm.trans HN2.out)

end Go.Proofs.Ytkmjeegnijohmaa

namespace Go.Proofs.Ytkmjeegnijohmaa
open Go.RowKit
set_option linter.unusedVariables false

theorem news_ints {wr X : World} {xa : Option Addr} {x : List Int} (hxi : IntsAt wr xa x) (hX : Below wr.heap.size wr X) : ∀ ad, xa = some ad → ∀ j u, (x.map (Value.int .i64))[j]? = some u → X.cell? (ad.add j) = some u := by
  intro ad e j u hu
  rw [List.getElem?_map] at hu
  obtain ⟨v, hv, rfl⟩ := Option.map_eq_some_iff.1 hu
  obtain ⟨hjl, e2⟩ := List.getElem?_eq_some_iff.1 hv
  obtain ⟨b, off, ea, hb, hc⟩ := hxi j hjl
  rw [e] at ea
  cases ea
  rw [Addr.add_lit]
  refine (hX.cell (p := ⟨b, off + j, none⟩) hb).trans ?_
  rw [hc, hv]; rfl
theorem change_mil {M : Mask} {y x : List Int} (h : (changeF y x).length = colsM M ∧ ∀ v ∈ changeF y x, -2000 ≤ v ∧ v ≤ 2000) : (changeF y x).length = colsM M ∧ milB (changeF y x) = true := by
  refine ⟨h.1, ?_⟩
  unfold milB
  rw [List.all_eq_true]
  intro v hv
  have := h.2 v hv
  unfold inB
  simp only [Bool.and_eq_true, decide_eq_true_eq]
  omega
def EncR8 (k E : Nat) (KB : Bool) (xa : Option Addr) (xn xc : Nat) (x : List Int) (wr : World) (fr fr' : Act) (w' : World) : Prop :=
  ∃ eb ca cc fb, fr' = (((((((((fr.put (some 18) (.int .i64 k)).put (some 19) (.int .i64 E)).put (some 20) (.int .i64 ((k : Int) % (E : Int)))).put (some 21) (.bool KB)).put (some 22) (.slice (some ⟨eb, 0, none⟩) 0 0)).put (some 23) (.slice xa xn xc)).put (some 24) (.slice ca xn cc)).put (some 25) (.agg #[.bool KB, .slice ca xn cc])).put (some 10) (.pointer (some ⟨fb, 0, none⟩))) ∧
    w'.heap[fb]? = some (.cells #[.bool KB, .slice ca xn cc] 50 (0, 0)) ∧ wr.heap.size ≤ fb ∧ w'.ownsRow wr.heap.size 3 1 (.slice ca xn cc) xn (x.map (Value.int .i64)) ∧ Below wr.heap.size wr w'

set_option maxRecDepth 100000 in
set_option maxHeartbeats 4000000 in
theorem r8encode_c (w : World) (a a2 : Option Addr) (n cap n2 cap2 : Nat) (M : Mask) (p : List (List Int)) (E : Nat) (hn : M.length = n) (hn2 : p.length = n2) (hm : n ≤ maxLen) (H : RowsAt w a M) (H2 : RowsAt w a2 p) (hP : picsB M p = true) (hE : 1 ≤ E) (hE2 : E ≤ 60) :
    Calls Try.prog 34 #[.slice a n cap, .slice a2 n2 cap2, .int .i64 E] w fun e w' => ∃ v, e = .returned v ∧ FrmsO w' w.heap.size (fun _ => True) v (encF M p E) ∧ Below w.heap.size w w' := by
  obtain ⟨hM, hp1, hp60, hpp⟩ := picsB_ok hP
  have HN2 := hid hn2
  have HH2 := hid H2
  have HCT := hid (fun (k : Nat) (hk : k < p.length) => encF_take M p E hk)
  have HCL := hid (show (encF M p E).length = n2 by rw [encF_len, hn2])
  have HEA := hid (show ∀ k, encAt M p E k = if k % E = 0 then (true, p[k]?.getD []) else (false, readV M (changeF (p[k - 1]?.getD []) (p[k]?.getD []))) from fun k => rfl)
  have HPG := hid (fun (i : Nat) (hi : i < p.length) => pic_bnd (picsB_get hP hi))
  have HCB := hid (fun (i : Nat) (hi : i < p.length) => change_bnd (picsB_get hP (i := i - 1) (by omega)) (picsB_get hP hi))
  have HRD := hid (fun (X : World) (hX : Below w.heap.size w X) (va : Option Addr) (vn vc : Nat) (x : List Int) (hv : x.length = vn) (hI : IntsAt X va x) (h2 : x.length = colsM M) (h3 : milB x = true) => r2Read_c X a va n cap vn vc M x hn hv (H.below hX) hI hM h2 h3)
  obtain ⟨_, _, _, hc1, hc10⟩ := okM_ok hM
  obtain ⟨C, hC⟩ : ∃ C, C = encF M p E := ⟨_, rfl⟩
  rw [← hC] at HCT HCL ⊢
  have HM := hid hM
  have hn60 : n2 ≤ 60 := by omega
  clear hn hn2 hm H H2 hC hP hpp hM hp1 hp60
  go_enter Try.func34, Try.ntmps34
  go_wp2
  go_loopw [7, 13] (fun v i wr => ∃ k : Nat, k ≤ n2 ∧ i = .int .i64 k ∧ FrmsO wr w.heap.size (fun _ => True) v (C.take k) ∧ Below w.heap.size w wr) (fun _ i _ => n2 - (intOf i).toNat)
  case atStart => exact ⟨0, Nat.zero_le _, rfl, FrmsO.nil _ _ _, Below.refl _ _⟩
  case round =>
    obtain ⟨k, hk, rfl, ho, hbk⟩ := hrel
    by_cases hlt : k < n2
    · have hkl : k < p.length := by rw [HN2.out]; exact hlt
      obtain ⟨b, off, xa, xn, xc, rfl, hbs, hc, hxn, hxm, hxi⟩ := (HH2.out.below hbk) k hkl
      have hxv : p[k]?.getD [] = p[k] := by rw [List.getElem?_eq_getElem hkl]; rfl
      have htk := HCT.out k hkl
      rw [HEA.out k, hxv] at htk
      obtain ⟨x, hx⟩ : ∃ x, x = p[k] := ⟨_, rfl⟩
      have hpg := HPG.out k hkl
      rw [hxv] at hpg
      rw [← hx] at hxn hxi htk hpg
      obtain ⟨KB, hKB⟩ : ∃ KB, KB = ((k : Int) % (E : Int) == 0) := ⟨_, rfl⟩
      have hkb := hKB.symm
      have hki : (k : Int) < (n2 : Int) := by omega
      have hki0 : (0 : Int) ≤ (k : Int) := by omega
      have hE1 : (1 : Int) ≤ (E : Int) := by omega
      have HE0 := hid (show ¬ E = 0 by omega)
      have HTM := hid (show (k : Int).tmod (E : Int) = (k : Int) % (E : Int) from Int.tmod_eq_emod_of_nonneg (by omega))
      have hkm : (k : Int) ≤ 9223372036854775807 := by omega
      have hem : (E : Int) ≤ 9223372036854775807 := by omega
      have HTK := hid htk
      have hx10 : xn ≤ 10 := by have := hpg.1; omega
      have HXN := hid hxn
      have HXI := hid hxi
      have HX0 := hid (show xa = none → xn = 0 from fun h => by subst h; rcases Nat.eq_zero_or_pos xn with h | h; exact h; obtain ⟨_, _, e, _⟩ := hxi 0 (by omega); cases e)
      have HNW := hid (show ∀ X : World, Below wr.heap.size wr X → ∀ ad, xa = some ad → ∀ j u, (x.map (Value.int .i64))[j]? = some u → X.cell? (ad.add j) = some u from fun X hX => news_ints hxi hX)
      have HPK := hid hpg
      have HX := hid hx
      have HO := hid ho
      have HBK := hid hbk
      clear htk hxn hxi hpg hx ho hbk hKB hxv
      go_wp2
      refine region_cut (EncR8 k E KB xa xn xc x wr) ?_ ?_
      · refine plain_region (fun j w' => decide (j < 10) = true → True) (by kernel_rfl) ?_
        have hbd : Below wr.heap.size wr wr.drew := (Below.refl _ _).drew
        generalize wr.drew = wd at hbd ⊢
        refine AnyT.takeD (i := 0) (v := .int .i64 k) rfl rfl (by kernel_rfl) (by kernel_rfl) (by kernel_rfl) (by first | exact (fun _ _ _ h => h) | exact (fun _ _ _ h => absurd h.1 (by simp))) (by kernel_rfl) (by rfl) (by rintro w' _; go_simp) trivial ?_; go_frame
        refine AnyT.takeD (i := 1) (v := .int .i64 E) rfl rfl (by kernel_rfl) (by kernel_rfl) (by kernel_rfl) (by first | exact (fun _ _ _ h => h) | exact (fun _ _ _ h => absurd h.1 (by simp))) (by kernel_rfl) (by rfl) (by rintro w' _; go_simp) trivial ?_; go_frame
        refine AnyT.takeD (i := 2) (v := .int .i64 ((k : Int) % (E : Int))) rfl rfl (by kernel_rfl) (by kernel_rfl) (by kernel_rfl) (by first | exact (fun _ _ _ h => h) | exact (fun _ _ _ h => absurd h.1 (by simp))) (by kernel_rfl) (by rfl) (by rintro w' _; go_simp; rw [if_neg HE0.out, HTM.out]) trivial ?_; go_frame
        refine AnyT.takeD (i := 3) (v := .bool KB) rfl rfl (by kernel_rfl) (by kernel_rfl) (by kernel_rfl) (by first | exact (fun _ _ _ h => h) | exact (fun _ _ _ h => absurd h.1 (by simp))) (by kernel_rfl) (by rfl) (by rintro w' _; go_simp) trivial ?_; go_frame
        refine AnyT.takeD (i := 5) (v := .slice xa xn xc) rfl rfl (by kernel_rfl) (by kernel_rfl) (by kernel_rfl) (by first | exact (fun _ _ _ h => h) | exact (fun _ _ _ h => absurd h.1 (by simp))) (by kernel_rfl) (by rfl) (by rintro w' _; go_simp) trivial ?_; go_frame
        have HBD := hid hbd
        have hwd := hbd.size
        clear hbd
        refine AnyT.next2 (i := 4) (j := 8) (by kernel_rfl) (wpOp_of_list rfl ?_) (wpOp_of_list rfl ?_)
        · go_wp2
          refine ⟨fun _ => trivial, ?_⟩
          have M := World.ownsRow_made (base := wd.heap.size) (e := 3) (size := 1) wd #[] 0 (Nat.le_refl _) (Nat.zero_le _) rfl
          have hbA := HBD.out.alloc HBD.out.size (.cells #[] 3)
          refine AnyT.next2 (i := 6) (j := 8) (by kernel_rfl) (wpOp_of_list rfl ?_) (wpOp_of_list rfl ?_)
          · (refine wpList_app _ rfl (.tmp 22) (.tmp 23) 25 rfl wd.heap.size 3 (.int .i64 0) 1 8 Try.underlying25 li_int rfl Nat.one_pos (.slice (some ⟨wd.heap.size, 0, none⟩) 0 0) 0 [] rfl M xa xn xc (x.map (Value.int .i64)) rfl (by rw [List.length_map, HXN.out, Nat.mul_one]) HX0.out (HNW.out _ hbA) (ints_one _) (by rw [Nat.zero_add]; unfold maxLen; omega) (by omega) (by first | omega | (simp; omega) | simp) ?_)
            intro ca cc w5 own5 g5
            rw [Nat.zero_add, List.nil_append] at own5
            rw [Nat.zero_add]
            have hb5 := hbA.grown g5 hbA.size (fun g hg => by have := (M.lt g hg).1; omega)
            have hO5 := own5
            have HO5 := hid own5
            have HB5 := hid hb5
            clear own5 g5 hb5 hbA M hO5
            refine ⟨fun _ => trivial, ?_⟩
            refine AnyT.takeD (i := 7) (v := .agg #[.bool KB, .slice ca xn cc]) rfl rfl (by kernel_rfl) (by kernel_rfl) (by kernel_rfl) (by first | exact (fun _ _ _ h => h) | exact (fun _ _ _ h => absurd h.1 (by simp))) (by kernel_rfl) (by rfl) (by rintro w' _; go_simp) trivial ?_; go_frame
            refine AnyT.next (i := 8) (by kernel_rfl) rfl (wpOp_of_list rfl ?_)
            go_wp2
            refine ⟨fun _ => trivial, ?_⟩
            have hw6 : (w5.alloc (.cells #[.bool false, .slice none 0 0] 50)).heap[w5.heap.size]? = some (.cells #[.bool false, .slice none 0 0] 50 (0, 0)) := World.alloc_heap_new _ _
            have HO6 := hid (HO5.out.alloc (.cells #[.bool false, .slice none 0 0] 50))
            have HB6 := hid (HB5.out.alloc HB5.out.size (.cells #[.bool false, .slice none 0 0] 50))
            generalize w5.alloc (.cells #[.bool false, .slice none 0 0] 50) = w6 at hw6 HO6 HB6 ⊢
            obtain ⟨z0, z1, f0, f1, hlt6⟩ := box2_facts hw6
            have HW6 := hid hw6
            clear hw6
            refine AnyT.next (i := 9) (by kernel_rfl) rfl (wpOp_of_list rfl ?_)
            go_wp2
            have hne : ∀ g, (Value.slice ca xn cc).ownBlock = some g → g ≠ w5.heap.size := fun g hg => by have := (HO5.out.lt g hg).2; omega
            have hfl : wr.heap.size ≤ w5.heap.size := HB5.out.size
            exact ⟨fun _ => trivial, by kernel_rfl, rfl, wd.heap.size, ca, cc, w5.heap.size, by go_frame, set2_block HW6.out, hfl, own_mono (own_set (own_set HO6.out _ hne) _ hne) hwd, below_set (below_set HB6.out hfl _ _) hfl _ _⟩
          · go_wp2
            refine ⟨fun _ => trivial, ?_⟩
            have hw6 : ((wd.alloc (.cells #[] 3)).alloc (.cells #[.bool false, .slice none 0 0] 50)).heap[(wd.alloc (.cells #[] 3)).heap.size]? = some (.cells #[.bool false, .slice none 0 0] 50 (0, 0)) := World.alloc_heap_new _ _
            have hs6 : ((wd.alloc (.cells #[] 3)).alloc (.cells #[.bool false, .slice none 0 0] 50)).heap.size = wd.heap.size + 2 := by simp
            rw [World.size_alloc] at hw6
            have hbB := hbA.alloc hbA.size (.cells #[.bool false, .slice none 0 0] 50)
            have hM6 := M.alloc (.cells #[.bool false, .slice none 0 0] 50)
            generalize (wd.alloc (.cells #[] 3)).alloc (.cells #[.bool false, .slice none 0 0] 50) = w6 at hw6 hs6 hbB hM6 ⊢
            refine AnyT.next (i := 6) (by kernel_rfl) rfl (wpOp_of_list rfl ?_)
            (refine wpList_app _ rfl (.tmp 22) (.tmp 23) 25 rfl wd.heap.size 3 (.int .i64 0) 1 8 Try.underlying25 li_int rfl Nat.one_pos (.slice (some ⟨wd.heap.size, 0, none⟩) 0 0) 0 [] rfl hM6 xa xn xc (x.map (Value.int .i64)) rfl (by rw [List.length_map, HXN.out, Nat.mul_one]) HX0.out (HNW.out _ hbB) (ints_one _) (by rw [Nat.zero_add]; unfold maxLen; omega) (by omega) (by first | omega | (simp; omega) | simp) ?_)
            intro ca cc w7 own5 g5
            rw [Nat.zero_add, List.nil_append] at own5
            rw [Nat.zero_add]
            have hb5 := hbB.grown g5 hbB.size (fun g hg => by have := (M.lt g hg).1; omega)
            have hw7 : w7.heap[wd.heap.size + 1]? = some (.cells #[.bool false, .slice none 0 0] 50 (0, 0)) := (g5.block _ (by omega) (by simp [Value.ownBlock])).trans hw6
            have hne : ∀ g, (Value.slice ca xn cc).ownBlock = some g → g ≠ wd.heap.size + 1 := fun g hg e => by
              rcases own5.2 with ⟨h, h'⟩ | ⟨g', cap', cur, h, h1, h2, _⟩
              · cases h; simp [Value.ownBlock] at hg
              · cases h
                obtain rfl : g' = g := by simpa [Value.ownBlock] using hg
                rw [e, hw7] at h2; cases h2
            have HNE := hid hne
            have HO5 := hid own5
            have HB5 := hid hb5
            obtain ⟨z0, z1, f0, f1, hlt6⟩ := box2_facts hw7
            have HW7 := hid hw7
            clear own5 g5 hb5 hbA hbB M hM6 hw6 hw7 hne
            refine ⟨fun _ => trivial, ?_⟩
            refine AnyT.takeD (i := 7) (v := .agg #[.bool KB, .slice ca xn cc]) rfl rfl (by kernel_rfl) (by kernel_rfl) (by kernel_rfl) (by first | exact (fun _ _ _ h => h) | exact (fun _ _ _ h => absurd h.1 (by simp))) (by kernel_rfl) (by rfl) (by rintro w' _; go_simp) trivial ?_; go_frame
            refine AnyT.next (i := 9) (by kernel_rfl) rfl (wpOp_of_list rfl ?_)
            go_wp2
            have hfl : wr.heap.size ≤ wd.heap.size + 1 := by omega
            exact ⟨fun _ => trivial, by kernel_rfl, rfl, wd.heap.size, ca, cc, wd.heap.size + 1, by go_frame, set2_block HW7.out, hfl, own_mono (own_set (own_set HO5.out _ HNE.out) _ HNE.out) hwd, below_set (below_set HB5.out hfl _ _) hfl _ _⟩
        · go_wp2
          refine ⟨fun _ => trivial, ?_⟩
          have hw6 : (wd.alloc (.cells #[.bool false, .slice none 0 0] 50)).heap[wd.heap.size]? = some (.cells #[.bool false, .slice none 0 0] 50 (0, 0)) := World.alloc_heap_new _ _
          have hs6 : (wd.alloc (.cells #[.bool false, .slice none 0 0] 50)).heap.size = wd.heap.size + 1 := by simp
          have hbA := HBD.out.alloc HBD.out.size (.cells #[.bool false, .slice none 0 0] 50)
          generalize wd.alloc (.cells #[.bool false, .slice none 0 0] 50) = w6 at hw6 hs6 hbA ⊢
          refine AnyT.next (i := 4) (by kernel_rfl) rfl (wpOp_of_list rfl ?_)
          go_wp2
          refine ⟨fun _ => trivial, ?_⟩
          have M := World.ownsRow_made (base := w6.heap.size) (e := 3) (size := 1) w6 #[] 0 (Nat.le_refl _) (Nat.zero_le _) rfl
          rw [hs6] at M
          have hbB := hbA.alloc hbA.size (.cells #[] 3)
          refine AnyT.next (i := 6) (by kernel_rfl) rfl (wpOp_of_list rfl ?_)
          (refine wpList_app _ rfl (.tmp 22) (.tmp 23) 25 rfl (wd.heap.size + 1) 3 (.int .i64 0) 1 8 Try.underlying25 li_int rfl Nat.one_pos (.slice (some ⟨wd.heap.size + 1, 0, none⟩) 0 0) 0 [] rfl M xa xn xc (x.map (Value.int .i64)) rfl (by rw [List.length_map, HXN.out, Nat.mul_one]) HX0.out (HNW.out _ hbB) (ints_one _) (by rw [Nat.zero_add]; unfold maxLen; omega) (by omega) (by first | omega | (simp; omega) | simp) ?_)
          intro ca cc w7 own5 g5
          rw [Nat.zero_add, List.nil_append] at own5
          rw [Nat.zero_add]
          have hb5 := hbB.grown g5 hbB.size (fun g hg => by have := (M.lt g hg).1; omega)
          have hw7 : w7.heap[wd.heap.size]? = some (.cells #[.bool false, .slice none 0 0] 50 (0, 0)) := (g5.block _ (by first | (simp; omega) | simp) (by first | (simp [Value.ownBlock]; omega) | simp [Value.ownBlock])).trans ((Below.heap_alloc _ _ _ (by omega)).trans hw6)
          have hne : ∀ g, (Value.slice ca xn cc).ownBlock = some g → g ≠ wd.heap.size := fun g hg e => by
            rcases own5.2 with ⟨h, h'⟩ | ⟨g', cap', cur, h, h1, h2, _⟩
            · cases h; simp [Value.ownBlock] at hg
            · cases h
              obtain rfl : g' = g := by simpa [Value.ownBlock] using hg
              rw [e, hw7] at h2; cases h2
          have HNE := hid hne
          have HO5 := hid own5
          have HB5 := hid hb5
          obtain ⟨z0, z1, f0, f1, hlt6⟩ := box2_facts hw7
          have HW7 := hid hw7
          clear own5 g5 hb5 hbA hbB M hw6 hw7 hne
          refine ⟨fun _ => trivial, ?_⟩
          refine AnyT.takeD (i := 7) (v := .agg #[.bool KB, .slice ca xn cc]) rfl rfl (by kernel_rfl) (by kernel_rfl) (by kernel_rfl) (by first | exact (fun _ _ _ h => h) | exact (fun _ _ _ h => absurd h.1 (by simp))) (by kernel_rfl) (by rfl) (by rintro w' _; go_simp) trivial ?_; go_frame
          refine AnyT.next (i := 9) (by kernel_rfl) rfl (wpOp_of_list rfl ?_)
          go_wp2
          exact ⟨fun _ => trivial, by kernel_rfl, rfl, wd.heap.size + 1, ca, cc, wd.heap.size, by go_frame, set2_block HW7.out, hwd, own_mono (own_set (own_set HO5.out _ HNE.out) _ HNE.out) (by omega), below_set (below_set HB5.out hwd _ _) hwd _ _⟩
      · rintro a' w5 ⟨eb, ca, cc, fb, rfl, hfb, hfl, hown, hb5⟩
        obtain ⟨z0, z1, f0, f1, hlt5⟩ := box2_facts hfb
        have hCk : (C.take k).length = k := by rw [List.length_take, HCL.out]; omega
        have HCK := hid hCk
        obtain ⟨va, vc, hva⟩ := HO.out.slice
        rw [hCk] at hva
        subst hva
        have M1 := hid (show k + 1 ≤ maxLen by unfold maxLen; omega)
        have M2 := hid (show (k + 1) * 32 ≤ 140737488355328 by omega)
        have hwr := HBK.out.size
        have HFB := hid hfb
        have HFL := hid hfl
        have HOWN := hid hown
        have HB5 := hid hb5
        clear hCk hfb hown
        cases KB
        · have hkE : ¬ k % E = 0 := fun h => by
            have : (k : Int) % (E : Int) = 0 := by omega
            rw [this] at hkb; simp at hkb
          have hk1 : 1 ≤ k := by
            rcases Nat.eq_zero_or_pos k with h | h
            · subst h; simp at hkE
            · exact h
          have htk2 := HTK.out
          rw [if_neg hkE] at htk2
          obtain ⟨q, hq⟩ : ∃ q, q = k - 1 := ⟨_, rfl⟩
          obtain ⟨b', off', ya, yn, yc, e', hbs', hc', hyn, hym, hyi⟩ := (HH2.out.below HBK.out) q (by have := HN2.out; omega)
          cases e'
          have hyv : p[k - 1]?.getD [] = p[q] := by rw [← hq, List.getElem?_eq_getElem (by have := HN2.out; omega)]; rfl
          have hpq := HPG.out q (by have := HN2.out; omega)
          rw [← hq] at hyv
          rw [hyv] at hpq
          have hcb := HCB.out k (by have := HN2.out; omega)
          rw [← hq, hyv] at hcb
          have hxv : p[k]?.getD [] = x := by rw [HX.out, List.getElem?_eq_getElem (by have := HN2.out; omega)]; rfl
          rw [hxv] at hcb
          rw [← hq, hyv] at htk2
          obtain ⟨y, hy⟩ : ∃ y, y = p[q]'(by have := HN2.out; omega) := ⟨_, rfl⟩
          rw [← hy] at hyn hyi hpq hcb htk2
          obtain rfl : yn = xn := by have := HPK.out.1; have := HXN.out; have := hpq.1; omega
          have hw : wrap64 ((k : Int) - 1) = (q : Int) := by unfold wrap64; omega
          have hw2 : IntKind.i64.wrap ((k : Int) - 1) = (q : Int) := by rw [IntWalk.i64_left]; exact hw
          have hq0 : (0 : Int) ≤ (q : Int) := by omega
          have hqn : (q : Int) < (n2 : Int) := by omega
          have hc5 : w5.cell? ⟨b, off + q, none⟩ = some (.slice ya yn yc) := (hb5.cell (p := ⟨b, _, none⟩) hbs).trans hc'
          have HCH := hid (r8change_c w5 ya xa yn yc xc y x hyn HXN.out (by have := HPK.out.1; have := HXN.out; omega) (hyi.below hb5) (HXI.out.below hb5) hpq.2 HPK.out.2)
          have HTK2 := hid htk2
          have HCB2 := hid hcb
          have HKX := hid hkE
          have hbw5 := hid (chain HBK.out hb5)
          have hsE := hid (change_mil hcb)
          have hRV := hid (show readM M (changeF y x) = readV M (changeF y x) from readM_V HM.out (fun v hv => by have := hcb.2 v hv; omega))
          have hXL := hid (show (changeF y x).length = yn by rw [changeF_len]; exact HXN.out)
          clear htk2 hcb hkE hq hyv hpq hxv hy hyn hyi hb5 hc'
          go_wp2_with (go_at_call 36; refine HCH.out.mono ?_; rintro e w6 ⟨v6, rfl, ho6, hb6⟩; refine Stop.of ?_)
          refine Stop.go ?_
          obtain ⟨da, dc, rfl, hdi, hdm⟩ := ints_of_own ho6 hXL.out
          have hRDX := HRD.out w6 (chain hbw5.out hb6) da yn dc (changeF y x) hXL.out hdi hsE.out.1 hsE.out.2
          have HRX := hid hRDX
          have HB6 := hid hb6
          clear hRDX ho6 hdi hb6
          go_wp2_with (go_at_call 56; refine HRX.out.mono ?_; rintro e w7 ⟨v7, rfl, ho7, hb7⟩; refine Stop.of ?_)
          refine Stop.go ?_
          obtain ⟨ra, rc, rfl⟩ := ownsRow_slice ho7
          have hB7 := chain HB6.out hb7
          have hf7 : w7.heap[fb]? = some (.cells #[.bool false, .slice ca yn cc] 50 (0, 0)) := (hB7.block fb hlt5).trans HFB.out
          obtain ⟨y0, y1, g0, g1, hlt7⟩ := box2_facts hf7
          have hf8 : (w7.setCell ⟨fb, 1, none⟩ (.slice ra n rc)).heap[fb]? = some (.cells #[.bool false, .slice ra n rc] 50 (0, 0)) := by rw [cells_set hf7 1]; rfl
          obtain ⟨d0, d1, k0, k1, hlt8⟩ := box2_facts hf8
          have hfw : w.heap.size ≤ fb := by have := HFL.out; omega
          have hB8 : Below w.heap.size w (w7.setCell ⟨fb, 1, none⟩ (.slice ra n rc)) := below_set (chain hbw5.out hB7) hfw _ _
          have hK8 : Keep (fun k => k ≠ fb) wr (w7.setCell ⟨fb, 1, none⟩ (.slice ra n rc)) := (Keep.of_below (chain HB5.out hB7) : Keep (fun k => k ≠ fb) _ _).trans (Keep.set _ _ _ _)
          have hFO := FrmsO.keep (S' := fun _ => True) HO.out hK8 (fun b _ hb => ⟨by have := HFL.out; omega, trivial⟩)
          have hEI : ElemI 3 (w7.setCell ⟨fb, 1, none⟩ (.slice ra n rc)) w.heap.size (fun _ => True) (.slice ra n rc) (readV M (changeF y x)) := by
            have h1 := own_set (o := 1) (u := .slice ra n rc) ho7 (b := fb) (fun g hg => by have := (ho7.lt g hg).1; have := HB6.out.size; omega)
            exact ElemI.own' h1 rfl (by have := h1.1; simpa using this) (by rcases h1.2 with ⟨_, h⟩ | ⟨_, _, _, _, _, _, h, h', _⟩ <;> unfold maxLen at * <;> omega) (fun _ _ => trivial)
          obtain ⟨xs, hoo, hgg, hoe⟩ := hFO
          have hoo' := hoo
          rw [HCK.out] at hoo'
          have HOO := hid hoo
          have HOE := hid hoe
          have HOO' := hid hoo'
          have HEI := hid hEI
          have HB8 := hid hB8
          clear hoo hgg hoe hoo' hEI hB8 hK8 ho7 hb7 hf8 hf7 hB7
          have M3 := hid (show w.heap.size ≤ ((w7.setCell ⟨fb, 1, none⟩ (.slice ra n rc)).alloc (.cells #[.bool false, .slice ra n rc] 50)).heap.size from Nat.le_trans HB8.out.size (le_alloc _ _))
          have hnw := news2 (w7.setCell ⟨fb, 1, none⟩ (.slice ra n rc)) (.bool false) (.slice ra n rc) 50
          have hsz : (w7.setCell ⟨fb, 1, none⟩ (.slice ra n rc)).heap.size = w7.heap.size := by simp [World.setCell]
          rw [hsz] at hnw
          have HNW := hid hnw
          clear hnw hsz
          go_wp2_with (at_builtin; refine wpList_app _ rfl (.tmp 42) (.tmp 44) 24 rfl w.heap.size 50 (.agg #[.bool false, .slice none 0 0]) 2 32 Try.underlying24 info_frame rfl (by decide) (.slice va k vc) k xs rfl (HOO'.out.alloc _) (some ⟨w7.heap.size, 0, none⟩) 1 1 [.bool false, .slice ra n rc] rfl rfl no_none HNW.out (frm_one _ _ _ _) M1.out M2.out M3.out ?_; intro a9 c9 w9 own9 g9; refine Stop.of ?_)
          refine Stop.go ?_
          have hsn := FrmsO.snoc (f := (false, readV M (changeF y x))) HOO.out HOE.out HEI.out ((Below.refl _ _).alloc (Nat.le_refl _) _) g9 (by rw [HCK.out]; exact own9) (fun _ _ => trivial)
          have hB9 : Below w.heap.size w w9 := (HB8.out.alloc HB8.out.size _).grown g9 M3.out (fun g hg => (HOO'.out.lt g hg).1)
          rw [← HTK2.out] at hsn
          have HSN := hid hsn
          have HB9 := hid hB9
          clear hsn hB9 own9 g9
          go_wp2
          refine ⟨⟨k + 1, by omega, by go_num, HSN.out, HB9.out⟩, by simp [intOf]; omega⟩
        · have hkE : k % E = 0 := by
            have : (k : Int) % (E : Int) = 0 := by simpa using hkb
            omega
          have htk2 := HTK.out
          rw [if_pos hkE] at htk2
          have hB8 : Below w.heap.size w w5 := chain HBK.out hb5
          have hFO := FrmsO.below HO.out hb5
          have hEI : ElemI 3 w5 w.heap.size (fun _ => True) (.slice ca xn cc) x := ElemI.own' HOWN.out rfl HXN.out hxm (fun _ _ => trivial)
          obtain ⟨xs, hoo, hgg, hoe⟩ := hFO
          have hoo' := hoo
          rw [HCK.out] at hoo'
          have HOO := hid hoo
          have HOE := hid hoe
          have HOO' := hid hoo'
          have HEI := hid hEI
          have HB8 := hid hB8
          have HTK2 := hid htk2
          clear hoo hgg hoe hoo' hEI hB8 htk2 hkE
          have M3 := hid (show w.heap.size ≤ (w5.alloc (.cells #[.bool true, .slice ca xn cc] 50)).heap.size from Nat.le_trans HB8.out.size (le_alloc _ _))
          go_wp2_with (at_builtin; refine wpList_app _ rfl (.tmp 42) (.tmp 44) 24 rfl w.heap.size 50 (.agg #[.bool false, .slice none 0 0]) 2 32 Try.underlying24 info_frame rfl (by decide) (.slice va k vc) k xs rfl (HOO'.out.alloc _) (some ⟨w5.heap.size, 0, none⟩) 1 1 [.bool true, .slice ca xn cc] rfl rfl no_none (news2 _ _ _ _) (frm_one _ _ _ _) M1.out M2.out M3.out ?_; intro a9 c9 w9 own9 g9; refine Stop.of ?_)
          refine Stop.go ?_
          have hsn := FrmsO.snoc (f := (true, x)) HOO.out HOE.out HEI.out ((Below.refl _ _).alloc (Nat.le_refl _) _) g9 (by rw [HCK.out]; exact own9) (fun _ _ => trivial)
          have hB9 : Below w.heap.size w w9 := (HB8.out.alloc HB8.out.size _).grown g9 M3.out (fun g hg => (HOO'.out.lt g hg).1)
          rw [← HTK2.out] at hsn
          have HSN := hid hsn
          have HB9 := hid hB9
          clear hsn hB9 own9 g9
          go_wp2
          refine ⟨⟨k + 1, by omega, by go_num, HSN.out, HB9.out⟩, by simp [intOf]; omega⟩
    · obtain rfl : n2 = k := by omega
      rw [List.take_of_length_le (by rw [HCL.out]; exact Nat.le_refl _)] at ho
      go_wp2
      go_ret
      exact ⟨_, rfl, ho, hbk⟩
end Go.Proofs.Ytkmjeegnijohmaa

namespace Go.Proofs.Ytkmjeegnijohmaa
open Go.RowKit
set_option linter.unusedVariables false

def encE (M : Mask) (p : List (List Int)) (every : Int) : Int := if picsB M p = true then (if inB every 1 60 = true then 0 else 7) else 1

set_option maxHeartbeats 1000000 in
theorem sEncode_c (w : World) (a a2 : Option Addr) (n cap n2 cap2 : Nat) (M : Mask) (p : List (List Int)) (every : Int) (hn : M.length = n) (hm : n ≤ maxLen) (H : RowsAt w a M) (hn2 : p.length = n2) (hm2 : n2 ≤ maxLen) (H2 : RowsAt w a2 p) :
    Calls Try.prog 10 #[.slice a n cap, .slice a2 n2 cap2, .int .i64 every] w fun e w' => Below w.heap.size w w' ∧
      ((encE M p every ≠ 0 ∧ e = .returned (.tuple #[.slice none 0 0, .int .i64 (encE M p every)])) ∨ (encE M p every = 0 ∧ ∃ v base, e = .returned (.tuple #[v, .int .i64 0]) ∧ w.heap.size ≤ base ∧ FrmsO w' base (fun _ => True) v (encF M p every.toNat))) := by
  have HV := hid (validPics_c w a n cap M hn hm H a2 n2 cap2 p hn2 hm2 H2)
  have HW := hid (fun X => swithin_c every 1 60 X)
  cases hP : picsB M p
  · have he : encE M p every = 1 := by unfold encE; rw [hP]; rfl
    rw [hP] at HV
    rw [he]
    clear hn H hn2 H2 hP he
    go_enter Try.func10, Try.ntmps10
    go_wp2_with (go_at_call 16; refine HV.out.mono ?_; rintro e w1 ⟨rfl, hb1⟩)
    go_ret2
    exact ⟨hb1, .inl ⟨by decide, rfl⟩⟩
  · cases hE : inB every 1 60
    · have he : encE M p every = 7 := by unfold encE; rw [hP, hE]; rfl
      rw [hP] at HV
      rw [hE] at HW
      rw [he]
      clear hn H hn2 H2 hP he hE
      go_enter Try.func10, Try.ntmps10
      go_wp2_with first
        | (go_at_call 16; refine HV.out.mono ?_; rintro e w1 ⟨rfl, hb1⟩)
        | (go_at_call 31; refine (HW.out _).mono ?_; rintro e w2 ⟨rfl, rfl⟩)
      go_ret2
      exact ⟨hb1, .inl ⟨by decide, rfl⟩⟩
    · have he : encE M p every = 0 := by unfold encE; rw [hP, hE]; rfl
      have hE' : 1 ≤ every ∧ every ≤ 60 := by unfold inB at hE; simpa using hE
      obtain ⟨E, rfl⟩ : ∃ E : Nat, every = (E : Int) := ⟨every.toNat, by omega⟩
      have HC := hid (fun (X : World) (hX : Below w.heap.size w X) => encode_c X a a2 n cap n2 cap2 M p E hn hn2 hm (H.below hX) (H2.below hX) hP (by omega) (by omega))
      rw [hP] at HV
      rw [hE] at HW
      rw [he, Int.toNat_natCast]
      clear hn H hn2 H2 hP he hE hE'
      go_enter Try.func10, Try.ntmps10
      go_wp2_with first
        | (go_at_call 16; refine HV.out.mono ?_; rintro e w1 ⟨rfl, hb1⟩)
        | (go_at_call 31; refine (HW.out _).mono ?_; rintro e w2 ⟨rfl, rfl⟩)
        | (go_at_call 32; refine (HC.out _ hb1).mono ?_; rintro e w3 ⟨v3, rfl, ho3, hb3⟩)
      go_ret2
      exact ⟨chain hb1 hb3, .inr ⟨trivial, v3, w1.heap.size, rfl, hb1.size, ho3⟩⟩
set_option maxHeartbeats 1000000 in
theorem r8Encode_c (w : World) (a a2 : Option Addr) (n cap n2 cap2 : Nat) (M : Mask) (p : List (List Int)) (every : Int) (hn : M.length = n) (hm : n ≤ maxLen) (H : RowsAt w a M) (hn2 : p.length = n2) (hm2 : n2 ≤ maxLen) (H2 : RowsAt w a2 p) :
    Calls Try.prog 11 #[.slice a n cap, .slice a2 n2 cap2, .int .i64 every] w fun e w' => Below w.heap.size w w' ∧
      ((encE M p every ≠ 0 ∧ e = .returned (.tuple #[.slice none 0 0, .int .i64 (encE M p every)])) ∨ (encE M p every = 0 ∧ ∃ v base, e = .returned (.tuple #[v, .int .i64 0]) ∧ w.heap.size ≤ base ∧ FrmsO w' base (fun _ => True) v (encF M p every.toNat))) := by
  have HV := hid (r8validPics_c w a n cap M hn hm H a2 n2 cap2 p hn2 hm2 H2)
  have HW := hid (fun X => r8in_c every 1 60 X)
  cases hP : picsB M p
  · have he : encE M p every = 1 := by unfold encE; rw [hP]; rfl
    rw [hP] at HV
    rw [he]
    clear hn H hn2 H2 hP he
    go_enter Try.func11, Try.ntmps11
    go_wp2_with (go_at_call 17; refine HV.out.mono ?_; rintro e w1 ⟨rfl, hb1⟩)
    go_ret2
    exact ⟨hb1, .inl ⟨by decide, rfl⟩⟩
  · cases hE : inB every 1 60
    · have he : encE M p every = 7 := by unfold encE; rw [hP, hE]; rfl
      rw [hP] at HV
      rw [hE] at HW
      rw [he]
      clear hn H hn2 H2 hP he hE
      go_enter Try.func11, Try.ntmps11
      go_wp2_with first
        | (go_at_call 17; refine HV.out.mono ?_; rintro e w1 ⟨rfl, hb1⟩)
        | (go_at_call 33; refine (HW.out _).mono ?_; rintro e w2 ⟨rfl, rfl⟩)
      go_ret2
      exact ⟨hb1, .inl ⟨by decide, rfl⟩⟩
    · have he : encE M p every = 0 := by unfold encE; rw [hP, hE]; rfl
      have hE' : 1 ≤ every ∧ every ≤ 60 := by unfold inB at hE; simpa using hE
      obtain ⟨E, rfl⟩ : ∃ E : Nat, every = (E : Int) := ⟨every.toNat, by omega⟩
      have HC := hid (fun (X : World) (hX : Below w.heap.size w X) => r8encode_c X a a2 n cap n2 cap2 M p E hn hn2 hm (H.below hX) (H2.below hX) hP (by omega) (by omega))
      rw [hP] at HV
      rw [hE] at HW
      rw [he, Int.toNat_natCast]
      clear hn H hn2 H2 hP he hE hE'
      go_enter Try.func11, Try.ntmps11
      go_wp2_with first
        | (go_at_call 17; refine HV.out.mono ?_; rintro e w1 ⟨rfl, hb1⟩)
        | (go_at_call 33; refine (HW.out _).mono ?_; rintro e w2 ⟨rfl, rfl⟩)
        | (go_at_call 34; refine (HC.out _ hb1).mono ?_; rintro e w3 ⟨v3, rfl, ho3, hb3⟩)
      go_ret2
      exact ⟨chain hb1 hb3, .inr ⟨trivial, v3, w1.heap.size, rfl, hb1.size, ho3⟩⟩

end Go.Proofs.Ytkmjeegnijohmaa

namespace Go.Proofs.Ytkmjeegnijohmaa
open Go.RowKit
set_option linter.unusedVariables false

def sentE (M : Mask) (p : List (List Int)) (every trust : Int) : Int := if picsB M p = true then (if inB every 1 60 = true ∧ inB trust 0 (colsM M) = true then 0 else 7) else 1
def sentB (M : Mask) (p : List (List Int)) (every trust : Int) : Bool := decide (sentE M p every trust = 0) && rightF M p every.toNat trust

set_option maxHeartbeats 800000 in
theorem sSent_c (w : World) (a a2 : Option Addr) (n cap n2 cap2 : Nat) (M : Mask) (p : List (List Int)) (every trust : Int) (hn : M.length = n) (hm : n ≤ maxLen) (H : RowsAt w a M) (hn2 : p.length = n2) (hm2 : n2 ≤ maxLen) (H2 : RowsAt w a2 p) :
    Calls Try.prog 30 #[.slice a n cap, .slice a2 n2 cap2, .int .i64 every, .int .i64 trust] w fun e w' => e = .returned (.tuple #[.bool (sentB M p every trust), .int .i64 (sentE M p every trust)]) ∧ Below w.heap.size w w' := by
  have HV := hid (validPics_c w a n cap M hn hm H a2 n2 cap2 p hn2 hm2 H2)
  cases hP : picsB M p
  · have he : sentE M p every trust = 1 := by unfold sentE; rw [hP]; rfl
    have hb : sentB M p every trust = false := by unfold sentB; rw [he]; rfl
    rw [hP] at HV
    rw [he, hb]
    clear hn H hn2 H2 hP he hb
    go_enter Try.func30, Try.ntmps30
    go_wp2_with (go_at_call 16; refine HV.out.mono ?_; rintro e w1 ⟨rfl, hb1⟩)
    go_ret2
    exact ⟨rfl, hb1⟩
  · obtain ⟨hM, hp1, hp60, hpp⟩ := picsB_ok hP
    obtain ⟨_, h1, h6, hc1, hc10⟩ := okM_ok hM
    obtain ⟨b, off, ra, rc, rfl, hb, hc⟩ := rows_head H (by omega)
    have i0 : (0 : Int) < (n : Int) := by omega
    have HC0 := hid (show ∀ X : World, Below w.heap.size w X → X.cell? ⟨b, off, none⟩ = some (.slice ra (colsM M) rc) from fun X hX => (hX.cell (p := ⟨b, off, none⟩) hb).trans hc)
    have HW := hid (fun X => swithin_c every 1 60 X)
    have HT := hid (fun X => swithin_c trust 0 (colsM M) X)
    have HE := hid (show sentE M p every trust = if inB every 1 60 = true ∧ inB trust 0 (colsM M) = true then 0 else 7 by unfold sentE; rw [hP]; rfl)
    rw [hP] at HV
    cases hE : inB every 1 60
    · have he : sentE M p every trust = 7 := by rw [HE.out, hE]; rfl
      have hb : sentB M p every trust = false := by unfold sentB; rw [he]; rfl
      rw [hE] at HW
      rw [he, hb]
      clear hn H hn2 H2 hP he hb hE hc hpp hM
      go_enter Try.func30, Try.ntmps30
      go_wp2_with first
        | (go_at_call 16; refine HV.out.mono ?_; rintro e w1 ⟨rfl, hb1⟩)
        | (go_at_call 31; refine (HW.out _).mono ?_; rintro e w2 ⟨rfl, rfl⟩)
      go_ret2
      exact ⟨rfl, hb1⟩
    · rw [hE] at HW
      cases hT : inB trust 0 (colsM M)
      · have he : sentE M p every trust = 7 := by rw [HE.out, hE, hT]; rfl
        have hb : sentB M p every trust = false := by unfold sentB; rw [he]; rfl
        rw [he, hb]
        obtain ⟨W, hW⟩ : ∃ W, W = colsM M := ⟨_, rfl⟩
        rw [← hW] at hT HC0
        clear hn H hn2 H2 hP he hb hc hpp hM hW HT HW
        go_enter Try.func30, Try.ntmps30
        go_wp2_with first
          | (go_at_call 16; refine HV.out.mono ?_; rintro e w1 ⟨rfl, hb1⟩; have hc1' := HC0.out w1 hb1)
          | (go_at_call 31; refine (swithin_c _ _ _ _).mono ?_; rintro e w2 ⟨rfl, rfl⟩)
        go_ret2
        exact ⟨rfl, hb1⟩
      · have he : sentE M p every trust = 0 := by rw [HE.out, hE, hT]; rfl
        have hb : sentB M p every trust = rightF M p every.toNat trust := by unfold sentB; rw [he]; rfl
        have hE' : 1 ≤ every ∧ every ≤ 60 := by unfold inB at hE; simpa using hE
        obtain ⟨E, rfl⟩ : ∃ E : Nat, every = (E : Int) := ⟨every.toNat, by omega⟩
        have HR := hid (fun (X : World) (hX : Below w.heap.size w X) => right_c X (some ⟨b, off, none⟩) a2 n cap n2 cap2 M p E trust hn hn2 hm hm2 (H.below hX) (H2.below hX) hP (by omega) (by omega))
        rw [he, hb, Int.toNat_natCast]
        obtain ⟨W, hW⟩ : ∃ W, W = colsM M := ⟨_, rfl⟩
        rw [← hW] at hT HC0
        clear hn H hn2 H2 hP he hb hc hpp hM hW hE' HT HW
        go_enter Try.func30, Try.ntmps30
        go_wp2_with first
          | (go_at_call 16; refine HV.out.mono ?_; rintro e w1 ⟨rfl, hb1⟩; have hc1' := HC0.out w1 hb1)
          | (go_at_call 31; refine (swithin_c _ _ _ _).mono ?_; rintro e w2 ⟨rfl, rfl⟩)
          | (go_at_call 53; refine (HR.out _ hb1).mono ?_; rintro e w3 ⟨rfl, hb3⟩)
        go_ret2
        exact ⟨rfl, chain hb1 hb3⟩

def awM : Mask := [[1, 1, 0], [0, 1, 1]]
def awP : List (List Int) := [[0, 0, 0], [0, 5, 0], [0, 5, 2]]
theorem aw_enc : encE awM awP 3 = 0 ∧ encF awM awP (Int.toNat 3) = [(true, [0, 0, 0]), (false, [5, 5]), (false, [0, 2])] := ⟨by kernel_rfl, by kernel_rfl⟩
theorem aw_sent : sentE awM awP 3 1 = 0 ∧ sentB awM awP 3 1 = true := ⟨by kernel_rfl, by kernel_rfl⟩
theorem ints_lit3 (w : World) (x y z : Int) (T : TypeId) : IntsAt (w.alloc (.cells #[.int .i64 x, .int .i64 y, .int .i64 z] T)) (some ⟨w.heap.size, 0, none⟩) [x, y, z] := fun j hj => ⟨w.heap.size, 0, rfl, by simp, by
  rw [World.cell?_alloc_at _ _ _ _ rfl]
  match j, hj with
  | 0, _ => rfl
  | 1, _ => rfl
  | 2, _ => rfl⟩
theorem ints_lit2 (w : World) (x y : Int) (T : TypeId) : IntsAt (w.alloc (.cells #[.int .i64 x, .int .i64 y] T)) (some ⟨w.heap.size, 0, none⟩) [x, y] := fun j hj => ⟨w.heap.size, 0, rfl, by simp, by
  rw [World.cell?_alloc_at _ _ _ _ rfl]
  match j, hj with
  | 0, _ => rfl
  | 1, _ => rfl⟩
theorem rows_three {w : World} {a1 a2 a3 : Option Addr} {n1 c1 n2 c2 n3 c3 : Nat} {x y z : List Int} (T : TypeId) (h1 : x.length = n1) (h2 : y.length = n2) (h3 : z.length = n3) (m1 : n1 ≤ maxLen) (m2 : n2 ≤ maxLen) (m3 : n3 ≤ maxLen) (H1 : IntsAt w a1 x) (H2 : IntsAt w a2 y) (H3 : IntsAt w a3 z) :
    RowsAt (w.alloc (.cells #[.slice a1 n1 c1, .slice a2 n2 c2, .slice a3 n3 c3] T)) (some ⟨w.heap.size, 0, none⟩) [x, y, z] := by
  have hb : Below w.heap.size w (w.alloc (.cells #[.slice a1 n1 c1, .slice a2 n2 c2, .slice a3 n3 c3] T)) := (Below.refl _ _).alloc (Nat.le_refl _) _
  intro j hj
  match j, hj with
  | 0, _ => exact ⟨w.heap.size, 0, a1, n1, c1, rfl, by simp, by rw [World.cell?_alloc_at _ _ _ _ rfl]; rfl, h1, m1, H1.below hb⟩
  | 1, _ => exact ⟨w.heap.size, 0, a2, n2, c2, rfl, by simp, by rw [World.cell?_alloc_at _ _ _ _ rfl]; rfl, h2, m2, H2.below hb⟩
  | 2, _ => exact ⟨w.heap.size, 0, a3, n3, c3, rfl, by simp, by rw [World.cell?_alloc_at _ _ _ _ rfl]; rfl, h3, m3, H3.below hb⟩

theorem awM_rows (w : World) : let W := ((w.alloc (.cells #[.int .i64 1, .int .i64 1, .int .i64 0] 3)).alloc (.cells #[.int .i64 0, .int .i64 1, .int .i64 1] 3)).alloc (.cells #[.slice (some ⟨w.heap.size, 0, none⟩) 3 3, .slice (some ⟨w.heap.size + 1, 0, none⟩) 3 3] 25)
    RowsAt W (some ⟨w.heap.size + 2, 0, none⟩) awM ∧ Below w.heap.size w W ∧ W.heap.size = w.heap.size + 3 := by
  have i1 := ints_lit3 w 1 1 0 3
  have i2 := ints_lit3 (w.alloc (.cells #[.int .i64 1, .int .i64 1, .int .i64 0] 3)) 0 1 1 3
  have b2 : ∀ o, Below (w.alloc (.cells #[.int .i64 1, .int .i64 1, .int .i64 0] 3)).heap.size (w.alloc (.cells #[.int .i64 1, .int .i64 1, .int .i64 0] 3)) ((w.alloc (.cells #[.int .i64 1, .int .i64 1, .int .i64 0] 3)).alloc o) := fun o => (Below.refl _ _).alloc (Nat.le_refl _) _
  have h := rows_two (c1 := 3) (c2 := 3) 25 rfl rfl (by decide) (by decide) (i1.below (b2 _)) i2
  simp only [World.size_alloc] at h
  exact ⟨h, ((((Below.refl _ _).alloc (Nat.le_refl _) _).alloc (by simp) _).alloc (by simp; omega) _), by simp⟩
theorem awP_rows (w : World) : let W := (((w.alloc (.cells #[.int .i64 0, .int .i64 0, .int .i64 0] 3)).alloc (.cells #[.int .i64 0, .int .i64 5, .int .i64 0] 3)).alloc (.cells #[.int .i64 0, .int .i64 5, .int .i64 2] 3)).alloc (.cells #[.slice (some ⟨w.heap.size, 0, none⟩) 3 3, .slice (some ⟨w.heap.size + 1, 0, none⟩) 3 3, .slice (some ⟨w.heap.size + 2, 0, none⟩) 3 3] 25)
    RowsAt W (some ⟨w.heap.size + 3, 0, none⟩) awP ∧ Below w.heap.size w W ∧ W.heap.size = w.heap.size + 4 := by
  obtain ⟨w1, hw1⟩ : ∃ w1, w1 = w.alloc (.cells #[.int .i64 0, .int .i64 0, .int .i64 0] 3) := ⟨_, rfl⟩
  have i1 := ints_lit3 w 0 0 0 3
  rw [← hw1] at i1 ⊢
  have i2 := ints_lit3 w1 0 5 0 3
  have s1 : w1.heap.size = w.heap.size + 1 := by rw [hw1]; simp
  obtain ⟨w2, hw2⟩ : ∃ w2, w2 = w1.alloc (.cells #[.int .i64 0, .int .i64 5, .int .i64 0] 3) := ⟨_, rfl⟩
  rw [← hw2] at i2 ⊢
  have b1 : Below w.heap.size w w1 := by rw [hw1]; exact (Below.refl _ _).alloc (Nat.le_refl _) _
  have b2 : Below w1.heap.size w1 w2 := by rw [hw2]; exact (Below.refl _ _).alloc (Nat.le_refl _) _
  have s2 : w2.heap.size = w.heap.size + 2 := by rw [hw2]; simp [s1]
  have i3 := ints_lit3 w2 0 5 2 3
  obtain ⟨w3, hw3⟩ : ∃ w3, w3 = w2.alloc (.cells #[.int .i64 0, .int .i64 5, .int .i64 2] 3) := ⟨_, rfl⟩
  rw [← hw3] at i3 ⊢
  have b3 : Below w2.heap.size w2 w3 := by rw [hw3]; exact (Below.refl _ _).alloc (Nat.le_refl _) _
  have s3 : w3.heap.size = w.heap.size + 3 := by rw [hw3]; simp [s2]
  rw [s1] at i2
  rw [s2] at i3
  have h := rows_three (c1 := 3) (c2 := 3) (c3 := 3) 25 rfl rfl rfl (by decide) (by decide) (by decide) ((i1.below b2).below b3) (i2.below b3) i3
  rw [s3] at h
  exact ⟨h, (chain (chain b1 b2) b3).alloc (by omega) _, by simp [s3]⟩

theorem awake8_c (w : World) : Calls Try.prog 9 #[] w fun e w' => e = .returned (.bool true) ∧ Below w.heap.size w w' := by
  obtain ⟨hM, hbA, hsA⟩ := awM_rows w
  obtain ⟨wA, hA⟩ : ∃ wA, wA = ((w.alloc (.cells #[.int .i64 1, .int .i64 1, .int .i64 0] 3)).alloc (.cells #[.int .i64 0, .int .i64 1, .int .i64 1] 3)).alloc (.cells #[.slice (some ⟨w.heap.size, 0, none⟩) 3 3, .slice (some ⟨w.heap.size + 1, 0, none⟩) 3 3] 25) := ⟨_, rfl⟩
  rw [← hA] at hM hbA hsA
  obtain ⟨hP, hbB, hsB⟩ := awP_rows wA
  obtain ⟨wB, hB⟩ : ∃ wB, wB = (((wA.alloc (.cells #[.int .i64 0, .int .i64 0, .int .i64 0] 3)).alloc (.cells #[.int .i64 0, .int .i64 5, .int .i64 0] 3)).alloc (.cells #[.int .i64 0, .int .i64 5, .int .i64 2] 3)).alloc (.cells #[.slice (some ⟨wA.heap.size, 0, none⟩) 3 3, .slice (some ⟨wA.heap.size + 1, 0, none⟩) 3 3, .slice (some ⟨wA.heap.size + 2, 0, none⟩) 3 3] 25) := ⟨_, rfl⟩
  rw [← hB] at hP hbB hsB
  have hMB := hM.below hbB
  have hbW := chain hbA hbB
  have hEN := sEncode_c wB (some ⟨w.heap.size + 2, 0, none⟩) (some ⟨wA.heap.size + 3, 0, none⟩) 2 2 3 3 awM awP 3 rfl (by decide) hMB rfl (by decide) hP
  rw [hsA] at hEN
  have HSE := hid (fun (X : World) (hX : Below wB.heap.size wB X) => sSent_c X (some ⟨w.heap.size + 2, 0, none⟩) (some ⟨wA.heap.size + 3, 0, none⟩) 2 2 3 3 awM awP 3 1 rfl (by decide) (hMB.below hX) rfl (by decide) (hP.below hX))
  rw [aw_sent.1, aw_sent.2, hsA] at HSE
  rw [aw_enc.1, aw_enc.2] at hEN
  have HEN := hid hEN
  have HBW := hid hbW
  have HSB := hid hsB
  have HSA := hid hsA
  have hBB := hB
  rw [hA] at hBB
  simp only [World.size_alloc] at hBB
  have HB := hid hBB
  clear hM hbA hsA hP hbB hsB hMB hbW hEN hA hB hBB
  go_enter Try.func9, Try.ntmps9
  go_wp2_with fail
  rw [← HB.out]
  refine (show Calls Try.prog _ _ wB _ from HEN.out.mono ?_)
  rintro e w1 ⟨hb1, ⟨h, _⟩ | ⟨_, v, base, rfl, hbs, hO⟩⟩
  · exact absurd rfl h
  obtain ⟨fa, fc, rfl, hfm, hfr⟩ := hO.reads
  have HFR := hid hfr
  have HB1 := hid hb1
  clear hO hfr hfm hb1 HEN HB
  go_wp2_with (go_at_call 30; refine (HSE.out w1 HB1.out).mono ?_; rintro e w2 ⟨rfl, hb2⟩; refine Stop.of ?_)
  refine Stop.go ?_
  obtain ⟨fb, fo, ra, rn, rc, rfl, hfb, hf0, hf1, hrn, hrm, hri⟩ := (HFR.out.below hb2) 2 (by decide)
  have hrn2 : rn = 2 := hrn.symm
  subst hrn2
  have hB2 := chain HB1.out hb2
  have hb5 : Below w2.heap.size w2 (w2.alloc (.cells #[.int .i64 0, .int .i64 2] 3)) := (Below.refl _ _).alloc (Nat.le_refl _) _
  have HSI := hid (s8Ints_c (w2.alloc (.cells #[.int .i64 0, .int .i64 2] 3)) ra (some ⟨w2.heap.size, 0, none⟩) 2 rc 2 2 [0, 2] [0, 2] rfl rfl (by decide) (by decide) (hri.below hb5) (ints_lit2 w2 0 2 3))
  have hd : decide (([0, 2] : List Int) = [0, 2]) = true := by decide
  rw [hd] at HSI
  have HB5 := hid (chain HBW.out (chain hB2 hb5))
  clear hB2 hb5 hd hri hrn hb2
  go_wp2_with (go_at_call 21; refine HSI.out.mono ?_; rintro e w7 ⟨rfl, k7, rfl⟩)
  go_ret
  exact ⟨rfl, below_drewN HB5.out k7⟩
end Go.Proofs.Ytkmjeegnijohmaa

namespace Go.Proofs.Ytkmjeegnijohmaa
open Go.RowKit
set_option linter.unusedVariables false

set_option maxRecDepth 100000 in
set_option maxHeartbeats 1000000 in
theorem sSizes_c (w : World) (a a2 : Option Addr) (n cap n2 cap2 : Nat) (M : Mask) (p : List (List Int)) (hn : M.length = n) (hm : n ≤ maxLen) (H : RowsAt w a M) (hn2 : p.length = n2) (hm2 : n2 ≤ maxLen) (hcap : n2 ≤ cap2) (H2 : RowsAt w a2 p) :
    Calls Try.prog 14 #[.slice a n cap, .slice a2 n2 cap2] w fun e w' => Below w.heap.size w w' ∧
      ((picsB M p = false ∧ e = .returned (.tuple #[.slice none 0 0, .int .i64 1])) ∨ (picsB M p = true ∧ ∃ v base, e = .returned (.tuple #[v, .int .i64 0]) ∧ w.heap.size ≤ base ∧ w'.ownsRow base 3 1 v (n2 - 1) ((sizesF p).map (Value.int .i64)))) := by
  have HV := hid (validPics_c w a n cap M hn hm H a2 n2 cap2 p hn2 hm2 H2)
  cases hP : picsB M p
  · rw [hP] at HV
    clear hn H hn2 H2 hP
    go_enter Try.func14, Try.ntmps14
    go_wp2_with (go_at_call 16; refine HV.out.mono ?_; rintro e w1 ⟨rfl, hb1⟩)
    go_ret2
    exact ⟨hb1, .inl ⟨trivial, rfl⟩⟩
  · rw [hP] at HV
    obtain ⟨hM, hp1, hp60, hpp⟩ := picsB_ok hP
    have HN2 := hid hn2
    have HH2 := hid H2
    have HCT := hid (fun (k : Nat) (hk : k < p.length - 1) => sizesF_take p hk)
    have HCL := hid (show (sizesF p).length = n2 - 1 by rw [sizesF_len, hn2])
    have HPG := hid (fun (i : Nat) (hi : i < p.length) => pic_bnd (picsB_get hP hi))
    obtain ⟨_, _, _, hc1, hc10⟩ := okM_ok hM
    obtain ⟨C, hC⟩ : ∃ C, C = sizesF p := ⟨_, rfl⟩
    rw [← hC] at HCT HCL ⊢
    have hn60 : n2 ≤ 60 := by omega
    obtain ⟨b, off, rfl, hbs0⟩ : ∃ b off, a2 = some ⟨b, off, none⟩ ∧ b < w.heap.size := by obtain ⟨b, off, _, _, _, e, h, _⟩ := H2 0 (by omega); exact ⟨b, off, e, h⟩
    have hi1 : (1 : Int) ≤ (n2 : Int) := by omega
    have hi2 : (n2 : Int) ≤ (cap2 : Int) := by omega
    obtain ⟨N, rfl⟩ : ∃ N, n2 = N + 1 := ⟨n2 - 1, by omega⟩
    rw [Nat.add_sub_cancel] at HCL ⊢
    clear hn H hn2 H2 hP hC hpp hM hp1 hp60 hm2
    go_enter Try.func14, Try.ntmps14
    go_wp2_with (go_at_call 16; refine HV.out.mono ?_; rintro e w1 ⟨rfl, hb1⟩)
    · rename_i h
      subst h
      obtain rfl : N = 0 := by omega
      go_loopw [6, 19] (fun v i wr => i = .int .i64 0 ∧ v = .slice none 0 0 ∧ w1 = wr) (fun _ i _ => 0 - (intOf i).toNat)
      case atStart => exact ⟨rfl, rfl, rfl⟩
      case round =>
        obtain ⟨rfl, rfl, rfl⟩ := hrel
        go_wp2
        go_ret2
        exact ⟨hb1, .inr ⟨trivial, _, w1.heap.size, rfl, hb1.size, by rw [List.eq_nil_of_length_eq_zero HCL.out]; exact World.ownsRow_nil _ _ _ _⟩⟩
    · rename_i h
      have hcp := h
      clear h
      obtain ⟨q, hq⟩ : ∃ q, q = N + 1 := ⟨_, rfl⟩
      rw [← hq]
      rw [← hq] at hi1 hi2 hn60
      have HQ := hid hq
      obtain ⟨o1, ho1⟩ : ∃ o1, o1 = off + 1 := ⟨_, rfl⟩
      rw [← ho1]
      have HO1 := hid ho1
      generalize cap2 - 1 = cap1
      clear hq hcp ho1
      go_loopw [6, 19] (fun v i wr => ∃ k : Nat, k ≤ N ∧ i = .int .i64 k ∧ wr.ownsRow w1.heap.size 3 1 v k ((C.take k).map (Value.int .i64)) ∧ Below w1.heap.size w1 wr) (fun _ i _ => N - (intOf i).toNat)
      case atStart => exact ⟨0, Nat.zero_le _, rfl, World.ownsRow_nil _ _ _ _, Below.refl _ _⟩
      case round =>
        obtain ⟨k, hk, rfl, ho, hbk⟩ := hrel
        by_cases hlt : k < N
        · have hkl : k < p.length := by rw [HN2.out]; omega
          have hkl1 : k + 1 < p.length := by rw [HN2.out]; omega
          have hbw := chain hb1 hbk
          obtain ⟨b1, off1, xa, xn, xc, e1, hbs1, hc, hxn, hxm, hxi⟩ := (HH2.out.below hbw) k hkl
          cases e1
          obtain ⟨b2, off2, ya, yn, yc, e2, hbs2, hc2, hyn, hym, hyi⟩ := (HH2.out.below hbw) (k + 1) hkl1
          cases e2
          rw [show off + (k + 1) = o1 + k by have := HO1.out; omega] at hc2
          have htk := HCT.out k (by rw [HN2.out]; omega)
          have hxv : p[k]?.getD [] = p[k] := by rw [List.getElem?_eq_getElem hkl]; rfl
          have hyv : p[k + 1]?.getD [] = p[k + 1] := by rw [List.getElem?_eq_getElem hkl1]; rfl
          have hpx := HPG.out k hkl
          have hpy := HPG.out (k + 1) hkl1
          rw [hxv] at hpx htk
          rw [hyv] at hpy htk
          obtain ⟨x, hx⟩ : ∃ x, x = p[k]'hkl := ⟨_, rfl⟩
          obtain ⟨y, hy⟩ : ∃ y, y = p[k + 1]'hkl1 := ⟨_, rfl⟩
          rw [← hx] at hxn hxi hpx htk
          rw [← hy] at hyn hyi hpy htk
          obtain rfl : yn = xn := by have := hpx.1; have := hpy.1; omega
          have HCH := hid (schange_c wr xa ya yn xc yc x y hxn hyn (by have := hpx.1; omega) hxi hyi hpx.2 hpy.2)
          have hdl : (changeF x y).length = yn := by rw [changeF_len]; exact hyn
          have HST := hid (fun (t : Nat) (ht : t < (changeF x y).length) => sizeL_take (changeF x y) ht)
          have hsl := sizeL_le (changeF x y)
          have hyn10 : yn ≤ 10 := by have := hpx.1; omega
          obtain ⟨D, hD⟩ : ∃ D, D = changeF x y := ⟨_, rfl⟩
          rw [← hD] at HCH hdl HST hsl htk
          have HTK := hid htk
          have HDL := hid hdl
          have HSL := hid hsl
          have HO := hid ho
          have HBK := hid hbk
          have hki : (k : Int) < (N : Int) := by omega
          have hki0 : (0 : Int) ≤ (k : Int) := by omega
          have hki1 : (k : Int) < (q : Int) := by have := HQ.out; omega
          clear htk hdl hsl hD hxn hxi hyn hyi hpx hpy hxv hyv hx hy ho hbk hbw
          go_wp2_with (go_at_call 35; refine HCH.out.mono ?_; rintro e w6 ⟨v6, rfl, ho6, hb6⟩; refine Stop.of ?_)
          refine Stop.go ?_
          obtain ⟨da, dc, rfl, hdi, hdm⟩ := ints_of_own ho6 HDL.out
          have HDI := hid hdi
          have HB6 := hid hb6
          have HBK6 := hid (chain HBK.out hb6)
          have HO6 := hid (own_below HO.out hb6)
          clear ho6 hdi hb6 hc hc2
          go_wp2
          go_loopw [9, 31] (fun nv i wq => ∃ t : Nat, t ≤ yn ∧ i = .int .i64 t ∧ nv = .int .i64 (sizeL (D.take t) : Nat) ∧ w6 = wq) (fun _ i _ => yn - (intOf i).toNat)
          case atStart => exact ⟨0, Nat.zero_le _, rfl, by simp [sizeL], rfl⟩
          case round =>
            obtain ⟨t, ht, rfl, rfl, rfl⟩ := hrel
            by_cases hlt2 : t < yn
            · have htl : t < D.length := by rw [HDL.out]; exact hlt2
              obtain ⟨db, doff, rfl, hdb, hdc⟩ := HDI.out t htl
              have hst := HST.out t htl
              have hle : sizeL (D.take t) ≤ 10 := by
                have h1 := sizeL_le (D.take t)
                rw [List.length_take] at h1
                omega
              obtain ⟨d, hd⟩ : ∃ d, d = D[t]?.getD 0 := ⟨_, rfl⟩
              rw [← hd] at hdc hst
              obtain ⟨s0, hs0⟩ : ∃ s, s = sizeL (D.take t) := ⟨_, rfl⟩
              rw [← hs0] at hst hle ⊢
              have hti : (t : Int) < (yn : Int) := by omega
              have hti0 : (0 : Int) ≤ (t : Int) := by omega
              have HST2 := hid hst
              have HDC := hid hdb
              clear hd hs0 hst hdb htl
              by_cases hd0 : d = 0
              · have hdn : (d != 0) = false := by simp [hd0]
                have hst3 : sizeL (D.take (t + 1)) = s0 := by rw [HST2.out, if_neg (fun h => h hd0)]; rfl
                have HST3 := hid hst3
                clear hst3 hd0
                go_wp2
                refine ⟨⟨t + 1, by omega, by go_num, by rw [HST3.out] <;> first | rfl | (congr 1) | simp, trivial⟩, by simp [intOf]; omega⟩
              · have hdn : (d != 0) = true := by simp [hd0]
                have hst3 : sizeL (D.take (t + 1)) = s0 + 1 := by rw [HST2.out, if_pos hd0]
                have HST3 := hid hst3
                have hw : wrap64 ((s0 : Int) + 1) = ((s0 + 1 : Nat) : Int) := by unfold wrap64; omega
                have hw2 : IntKind.i64.wrap ((s0 : Int) + 1) = ((s0 + 1 : Nat) : Int) := by rw [IntWalk.i64_left]; exact hw
                clear hst3 hd0
                go_wp2
                refine ⟨⟨t + 1, by omega, by go_num, by rw [HST3.out] <;> first | rfl | (congr 1) | simp, trivial⟩, by simp [intOf]; omega⟩
            · obtain rfl : t = yn := by omega
              rw [List.take_of_length_le (by rw [HDL.out]; exact Nat.le_refl _)]
              obtain ⟨la, lc, rfl⟩ := ownsRow_slice HO6.out
              obtain ⟨z, hz⟩ : ∃ z, z = ((sizeL D : Nat) : Int) := ⟨_, rfl⟩
              have htk := HTK.out
              rw [← hz] at htk ⊢
              have HTK2 := hid htk
              have M1 := hid (show k + 1 ≤ maxLen by unfold maxLen; omega)
              have M2 := hid (show (k + 1) * 8 ≤ 140737488355328 by omega)
              have M3 := hid (Nat.le_trans HBK6.out.size (le_alloc w6 (.cells #[.int .i64 z] 3)))
              clear htk hz
              go_wp2_with (at_builtin; refine wpList_app _ rfl (.tmp 40) (.tmp 42) 25 rfl w1.heap.size 3 (.int .i64 0) 1 8 Try.underlying25 li_int rfl Nat.one_pos (.slice la k lc) k _ rfl (HO6.out.alloc _) (some ⟨w6.heap.size, 0, none⟩) 1 1 [.int .i64 z] rfl rfl no_none (one_news w6 _ _) (li_one _) M1.out M2.out M3.out ?_; refine Stop.of ?_)
              refine Stop.go ?_
              intro a3 c3 w3 own3 g3
              have hB3 : Below w1.heap.size w1 w3 := (HBK6.out.alloc HBK6.out.size _).grown g3 M3.out (fun k hk => (HO6.out.lt k hk).1)
              go_wp2
              refine ⟨⟨k + 1, by omega, by go_num, ?_, hB3⟩, by simp [intOf]; omega⟩
              rw [HTK2.out]
              simpa using own3
        · obtain rfl : N = k := by omega
          rw [List.take_of_length_le (by rw [HCL.out]; exact Nat.le_refl _)] at ho
          go_wp2
          go_ret2
          exact ⟨chain hb1 hbk, .inr ⟨trivial, _, w1.heap.size, rfl, hb1.size, ho⟩⟩
end Go.Proofs.Ytkmjeegnijohmaa

namespace Go.Proofs.Ytkmjeegnijohmaa
open Go.RowKit
set_option linter.unusedVariables false

set_option maxRecDepth 100000 in
set_option maxHeartbeats 4000000 in
theorem r8Sizes_c (w : World) (a a2 : Option Addr) (n cap n2 cap2 : Nat) (M : Mask) (p : List (List Int)) (hn : M.length = n) (hm : n ≤ maxLen) (H : RowsAt w a M) (hn2 : p.length = n2) (hm2 : n2 ≤ maxLen) (hcap : n2 ≤ cap2) (H2 : RowsAt w a2 p) :
    Calls Try.prog 15 #[.slice a n cap, .slice a2 n2 cap2] w fun e w' => Below w.heap.size w w' ∧
      ((picsB M p = false ∧ e = .returned (.tuple #[.slice none 0 0, .int .i64 1])) ∨ (picsB M p = true ∧ ∃ v base, e = .returned (.tuple #[v, .int .i64 0]) ∧ w.heap.size ≤ base ∧ w'.ownsRow base 3 1 v (n2 - 1) ((sizesF p).map (Value.int .i64)))) := by
  have HV := hid (r8validPics_c w a n cap M hn hm H a2 n2 cap2 p hn2 hm2 H2)
  cases hP : picsB M p
  · rw [hP] at HV
    clear hn H hn2 H2 hP
    go_enter Try.func15, Try.ntmps15
    go_wp2_with (go_at_call 17; refine HV.out.mono ?_; rintro e w1 ⟨rfl, hb1⟩)
    go_ret2
    exact ⟨hb1, .inl ⟨trivial, rfl⟩⟩
  · rw [hP] at HV
    obtain ⟨hM, hp1, hp60, hpp⟩ := picsB_ok hP
    have HN2 := hid hn2
    have HH2 := hid H2
    have HCT := hid (fun (k : Nat) (hk : k < p.length - 1) => sizesF_take p hk)
    have HCL := hid (show (sizesF p).length = n2 - 1 by rw [sizesF_len, hn2])
    have HPG := hid (fun (i : Nat) (hi : i < p.length) => pic_bnd (picsB_get hP hi))
    obtain ⟨_, _, _, hc1, hc10⟩ := okM_ok hM
    obtain ⟨C, hC⟩ : ∃ C, C = sizesF p := ⟨_, rfl⟩
    rw [← hC] at HCT HCL ⊢
    have hn60 : n2 ≤ 60 := by omega
    have hn1 : 1 ≤ n2 := by omega
    obtain ⟨b, off, rfl, hbs0⟩ : ∃ b off, a2 = some ⟨b, off, none⟩ ∧ b < w.heap.size := by obtain ⟨b, off, _, _, _, e, h, _⟩ := H2 0 (by omega); exact ⟨b, off, e, h⟩
    clear hn H hn2 H2 hP hC hpp hM hp1 hp60 hm2 hcap
    go_enter Try.func15, Try.ntmps15
    go_wp2_with (go_at_call 17; refine HV.out.mono ?_; rintro e w1 ⟨rfl, hb1⟩)
    go_loopw [6, 7] (fun v i wr => ∃ j q : Nat, j ≤ n2 ∧ q + 1 = j ∧ i = .int .i64 j ∧ wr.ownsRow w1.heap.size 3 1 v q ((C.take q).map (Value.int .i64)) ∧ Below w1.heap.size w1 wr) (fun _ i _ => n2 - (intOf i).toNat)
    case atStart => exact ⟨1, 0, hn1, rfl, rfl, World.ownsRow_nil _ _ _ _, Below.refl _ _⟩
    case round =>
      obtain ⟨j, q, hj, hqj, rfl, ho, hbk⟩ := hrel
      by_cases hlt : j < n2
      · have hkl : q < p.length := by rw [HN2.out]; omega
        have hkl1 : j < p.length := by rw [HN2.out]; omega
        have hbw := chain hb1 hbk
        obtain ⟨b1, off1, xa, xn, xc, e1, hbs1, hc, hxn, hxm, hxi⟩ := (HH2.out.below hbw) q hkl
        cases e1
        obtain ⟨b2, off2, ya, yn, yc, e2, hbs2, hc2, hyn, hym, hyi⟩ := (HH2.out.below hbw) j hkl1
        cases e2
        have htk := HCT.out q (by rw [HN2.out]; omega)
        rw [hqj] at htk
        have hxv : p[q]?.getD [] = p[q] := by rw [List.getElem?_eq_getElem hkl]; rfl
        have hyv : p[j]?.getD [] = p[j] := by rw [List.getElem?_eq_getElem hkl1]; rfl
        have hpx := HPG.out q hkl
        have hpy := HPG.out j hkl1
        rw [hxv] at hpx htk
        rw [hyv] at hpy htk
        obtain ⟨x, hx⟩ : ∃ x, x = p[q]'hkl := ⟨_, rfl⟩
        obtain ⟨y, hy⟩ : ∃ y, y = p[j]'hkl1 := ⟨_, rfl⟩
        rw [← hx] at hxn hxi hpx htk
        rw [← hy] at hyn hyi hpy htk
        obtain rfl : yn = xn := by have := hpx.1; have := hpy.1; omega
        have HCH := hid (fun (X : World) (hX : Below wr.heap.size wr X) => r8change_c X xa ya yn xc yc x y hxn hyn (by have := hpx.1; omega) (hxi.below hX) (hyi.below hX) hpx.2 hpy.2)
        have hdl : (changeF x y).length = yn := by rw [changeF_len]; exact hyn
        have HST := hid (fun (t : Nat) (ht : t < (changeF x y).length) => sizeL_take (changeF x y) ht)
        have hyn10 : yn ≤ 10 := by have := hpx.1; omega
        obtain ⟨D, hD⟩ : ∃ D, D = changeF x y := ⟨_, rfl⟩
        rw [← hD] at HCH hdl HST htk
        have HTK := hid htk
        have HDL := hid hdl
        have HO := hid ho
        have HBK := hid hbk
        have hki : (j : Int) < (n2 : Int) := by omega
        have hki0 : (0 : Int) ≤ (j : Int) := by omega
        have hqi : (q : Int) < (n2 : Int) := by omega
        have hqi0 : (0 : Int) ≤ (q : Int) := by omega
        have hw : wrap64 ((j : Int) - 1) = (q : Int) := by unfold wrap64; omega
        have hw2 : IntKind.i64.wrap ((j : Int) - 1) = (q : Int) := by rw [IntWalk.i64_left]; exact hw
        have HQJ := hid hqj
        have HS := hid (show ∀ X : World, Below wr.heap.size wr X → X.cell? ⟨b, off + q, none⟩ = some (.slice xa yn xc) ∧ X.cell? ⟨b, off + j, none⟩ = some (.slice ya yn yc) ∧ Below wr.heap.size wr X from fun X hX => ⟨(hX.cell (p := ⟨b, _, none⟩) hbs1).trans hc, (hX.cell (p := ⟨b, _, none⟩) hbs2).trans hc2, hX⟩)
        clear htk hdl hD hxn hxi hyn hyi hpx hpy hxv hyv hx hy ho hbk hbw hqj hc hc2
        go_wp2
        refine plain_region (fun j' w' => decide (j' < 12) = true → w'.cell? ⟨b, off + q, none⟩ = some (.slice xa yn xc) ∧ w'.cell? ⟨b, off + j, none⟩ = some (.slice ya yn yc) ∧ Below wr.heap.size wr w') (by kernel_rfl) ?_
        have hS := HS.out wr.drew (Below.refl _ _).drew
        generalize wr.drew = wd at hS ⊢
        refine AnyT.takeD (i := 0) (v := .slice (some ⟨b, off, none⟩) n2 cap2) rfl rfl (by kernel_rfl) (by kernel_rfl) (by kernel_rfl) (by first | exact (fun _ _ _ h => h) | exact (fun _ _ _ h => absurd h.1 (by simp))) (by kernel_rfl) (by rfl) (by rintro w' ⟨q1, q2, q3⟩; go_simp) hS ?_; go_frame
        refine AnyT.takeD (i := 1) (v := .int .i64 j) rfl rfl (by kernel_rfl) (by kernel_rfl) (by kernel_rfl) (by first | exact (fun _ _ _ h => h) | exact (fun _ _ _ h => absurd h.1 (by simp))) (by kernel_rfl) (by rfl) (by rintro w' ⟨q1, q2, q3⟩; go_simp) hS ?_; go_frame
        refine AnyT.takeD (i := 2) (v := .int .i64 q) rfl rfl (by kernel_rfl) (by kernel_rfl) (by kernel_rfl) (by first | exact (fun _ _ _ h => h) | exact (fun _ _ _ h => absurd h.1 (by simp))) (by kernel_rfl) (by rfl) (by rintro w' ⟨q1, q2, q3⟩; go_simp) hS ?_; go_frame
        refine AnyT.takeD (i := 3) (v := .pointer (some ⟨b, off + q, none⟩)) rfl rfl (by kernel_rfl) (by kernel_rfl) (by kernel_rfl) (by first | exact (fun _ _ _ h => h) | exact (fun _ _ _ h => absurd h.1 (by simp))) (by kernel_rfl) (by rfl) (by rintro w' ⟨q1, q2, q3⟩; go_simp) hS ?_; go_frame
        refine AnyT.takeD (i := 4) (v := .slice xa yn xc) rfl rfl (by kernel_rfl) (by kernel_rfl) (by kernel_rfl) (by first | exact (fun _ _ _ h => h) | exact (fun _ _ _ h => absurd h.1 (by simp))) (by kernel_rfl) (by rfl) (by rintro w' ⟨q1, q2, q3⟩; go_simp) hS ?_; go_frame
        refine AnyT.takeD (i := 5) (v := .slice (some ⟨b, off, none⟩) n2 cap2) rfl rfl (by kernel_rfl) (by kernel_rfl) (by kernel_rfl) (by first | exact (fun _ _ _ h => h) | exact (fun _ _ _ h => absurd h.1 (by simp))) (by kernel_rfl) (by rfl) (by rintro w' ⟨q1, q2, q3⟩; go_simp) hS ?_; go_frame
        refine AnyT.takeD (i := 6) (v := .int .i64 j) rfl rfl (by kernel_rfl) (by kernel_rfl) (by kernel_rfl) (by first | exact (fun _ _ _ h => h) | exact (fun _ _ _ h => absurd h.1 (by simp))) (by kernel_rfl) (by rfl) (by rintro w' ⟨q1, q2, q3⟩; go_simp) hS ?_; go_frame
        refine AnyT.takeD (i := 7) (v := .pointer (some ⟨b, off + j, none⟩)) rfl rfl (by kernel_rfl) (by kernel_rfl) (by kernel_rfl) (by first | exact (fun _ _ _ h => h) | exact (fun _ _ _ h => absurd h.1 (by simp))) (by kernel_rfl) (by rfl) (by rintro w' ⟨q1, q2, q3⟩; go_simp) hS ?_; go_frame
        refine AnyT.takeD (i := 8) (v := .slice ya yn yc) rfl rfl (by kernel_rfl) (by kernel_rfl) (by kernel_rfl) (by first | exact (fun _ _ _ h => h) | exact (fun _ _ _ h => absurd h.1 (by simp))) (by kernel_rfl) (by rfl) (by rintro w' ⟨q1, q2, q3⟩; go_simp) hS ?_; go_frame
        refine AnyT.takeD (i := 11) (v := .int .i64 0) rfl rfl (by kernel_rfl) (by kernel_rfl) (by kernel_rfl) (by first | exact (fun _ _ _ h => h) | exact (fun _ _ _ h => absurd h.1 (by simp))) (by kernel_rfl) (by rfl) (by rintro w' ⟨q1, q2, q3⟩; go_simp) hS ?_; go_frame
        refine AnyT.next (i := 9) (by kernel_rfl) rfl (wpOp_of_list rfl ?_)
        have HBD := hid hS.2.2
        go_wp2_with (go_at_call 36; refine (HCH.out _ HBD.out).mono ?_; rintro e w6 ⟨v6, rfl, ho6, hb6⟩; refine Stop.of ?_)
        refine Stop.go ?_
        obtain ⟨da, dc, rfl, hdi, hdm⟩ := ints_of_own ho6 HDL.out
        have hS6 := HS.out w6 (chain HBD.out hb6)
        have HDI := hid hdi
        have HBK6 := hid (chain HBK.out hS6.2.2)
        have HO6 := hid (own_below HO.out hS6.2.2)
        clear ho6 hdi hb6 hS
        go_wp2
        refine ⟨fun _ => hS6, ?_⟩
        refine AnyT.takeD (i := 10) (v := .int .i64 yn) rfl rfl (by kernel_rfl) (by kernel_rfl) (by kernel_rfl) (by first | exact (fun _ _ _ h => h) | exact (fun _ _ _ h => absurd h.1 (by simp))) (by kernel_rfl) (by rfl) (by rintro w' ⟨q1, q2, q3⟩; go_simp) hS6 ?_; go_frame
        refine ⟨by kernel_rfl, ?_⟩
        clear hS6
        go_wp2
        go_loopw [8, 32] (fun nv i wq => ∃ t : Nat, t ≤ yn ∧ i = .int .i64 t ∧ nv = .int .i64 (sizeL (D.take t) : Nat) ∧ w6 = wq) (fun _ i _ => yn - (intOf i).toNat)
        case atStart => exact ⟨0, Nat.zero_le _, rfl, by simp [sizeL], rfl⟩
        case round =>
          obtain ⟨t, ht, rfl, rfl, rfl⟩ := hrel
          by_cases hlt2 : t < yn
          · have htl : t < D.length := by rw [HDL.out]; exact hlt2
            obtain ⟨db, doff, rfl, hdb, hdc⟩ := HDI.out t htl
            have hst := HST.out t htl
            have hle : sizeL (D.take t) ≤ 10 := by
              have h1 := sizeL_le (D.take t)
              rw [List.length_take] at h1
              omega
            obtain ⟨d, hd⟩ : ∃ d, d = D[t]?.getD 0 := ⟨_, rfl⟩
            rw [← hd] at hdc hst
            obtain ⟨s0, hs0⟩ : ∃ s, s = sizeL (D.take t) := ⟨_, rfl⟩
            rw [← hs0] at hst hle ⊢
            have hti : (t : Int) < (yn : Int) := by omega
            have hti0 : (0 : Int) ≤ (t : Int) := by omega
            have HST2 := hid hst
            have HDC := hid hdb
            clear hd hs0 hst hdb htl
            by_cases hd0 : d = 0
            · have hdn : (d != 0) = false := by simp [hd0]
              have hst3 : sizeL (D.take (t + 1)) = s0 := by rw [HST2.out, if_neg (fun h => h hd0)]; rfl
              have HST3 := hid hst3
              clear hst3 hd0
              go_wp2
              refine ⟨⟨t + 1, by omega, by go_num, by rw [HST3.out] <;> first | rfl | (congr 1) | simp, trivial⟩, by simp [intOf]; omega⟩
            · have hdn : (d != 0) = true := by simp [hd0]
              have hst3 : sizeL (D.take (t + 1)) = s0 + 1 := by rw [HST2.out, if_pos hd0]
              have HST3 := hid hst3
              have hw : wrap64 ((s0 : Int) + 1) = ((s0 + 1 : Nat) : Int) := by unfold wrap64; omega
              have hw2 : IntKind.i64.wrap ((s0 : Int) + 1) = ((s0 + 1 : Nat) : Int) := by rw [IntWalk.i64_left]; exact hw
              clear hst3 hd0
              go_wp2
              refine ⟨⟨t + 1, by omega, by go_num, by rw [HST3.out] <;> first | rfl | (congr 1) | simp, trivial⟩, by simp [intOf]; omega⟩
          · obtain rfl : t = yn := by omega
            rw [List.take_of_length_le (by rw [HDL.out]; exact Nat.le_refl _)]
            obtain ⟨la, lc, rfl⟩ := ownsRow_slice HO6.out
            obtain ⟨z, hz⟩ : ∃ z, z = ((sizeL D : Nat) : Int) := ⟨_, rfl⟩
            have htk := HTK.out
            rw [← hz] at htk ⊢
            have HTK2 := hid htk
            have M1 := hid (show q + 1 ≤ maxLen by unfold maxLen; omega)
            have M2 := hid (show (q + 1) * 8 ≤ 140737488355328 by omega)
            have M3 := hid (Nat.le_trans HBK6.out.size (le_alloc w6 (.cells #[.int .i64 z] 3)))
            clear htk hz
            go_wp2_with (at_builtin; refine wpList_app _ rfl (.tmp 41) (.tmp 43) 25 rfl w1.heap.size 3 (.int .i64 0) 1 8 Try.underlying25 li_int rfl Nat.one_pos (.slice la q lc) q _ rfl (HO6.out.alloc _) (some ⟨w6.heap.size, 0, none⟩) 1 1 [.int .i64 z] rfl rfl no_none (one_news w6 _ _) (li_one _) M1.out M2.out M3.out ?_; refine Stop.of ?_)
            refine Stop.go ?_
            intro a3 c3 w3 own3 g3
            have hB3 : Below w1.heap.size w1 w3 := (HBK6.out.alloc HBK6.out.size _).grown g3 M3.out (fun k hk => (HO6.out.lt k hk).1)
            go_wp2
            refine ⟨⟨j + 1, j, by omega, rfl, by go_num, ?_, hB3⟩, by simp [intOf]; omega⟩
            rw [HTK2.out, ← HQJ.out]
            simpa using own3
      · obtain rfl : n2 = j := by omega
        rw [List.take_of_length_le (by rw [HCL.out]; omega)] at ho
        obtain rfl : q = n2 - 1 := by omega
        go_wp2
        go_ret2
        exact ⟨chain hb1 hbk, .inr ⟨trivial, _, w1.heap.size, rfl, hb1.size, ho⟩⟩
end Go.Proofs.Ytkmjeegnijohmaa

namespace Go.Proofs.Ytkmjeegnijohmaa
open Go.RowKit
set_option linter.unusedVariables false

def encL (M : Mask) (p : List (List Int)) (every : Int) : List Frm := if encE M p every = 0 then encF M p every.toNat else []
def chE (M : Mask) (x y : List Int) : Int := if picsB M [x, y] = true then 0 else 1
def chL (M : Mask) (x y : List Int) : List Int := if picsB M [x, y] = true then changeF x y else []
def szE (M : Mask) (p : List (List Int)) : Int := if picsB M p = true then 0 else 1
def szL (M : Mask) (p : List (List Int)) : List Int := if picsB M p = true then sizesF p else []

theorem ints_nil {W : World} {a : Option Addr} : IntsAt W a [] := fun j hj => by simp at hj
theorem frames_nil {W : World} {a : Option Addr} : FramesAt W a [] := fun j hj => by simp at hj

theorem sEncodeU_c (w : World) (a a2 : Option Addr) (n cap n2 cap2 : Nat) (M : Mask) (p : List (List Int)) (every : Int) (hn : M.length = n) (hm : n ≤ maxLen) (H : RowsAt w a M) (hn2 : p.length = n2) (hm2 : n2 ≤ maxLen) (H2 : RowsAt w a2 p) :
    Calls Try.prog 10 #[.slice a n cap, .slice a2 n2 cap2, .int .i64 every] w fun e w' => ∃ va vc, e = .returned (.tuple #[.slice va (encL M p every).length vc, .int .i64 (encE M p every)]) ∧ (encL M p every).length ≤ maxLen ∧ FramesAt w' va (encL M p every) ∧ Below w.heap.size w w' := by
  refine (sEncode_c w a a2 n cap n2 cap2 M p every hn hm H hn2 hm2 H2).mono ?_
  rintro e w' ⟨hb, ⟨h, rfl⟩ | ⟨h, v, base, rfl, _, ho⟩⟩
  · have hL : encL M p every = [] := by unfold encL; rw [if_neg h]
    rw [hL]
    exact ⟨none, 0, rfl, by decide, frames_nil, hb⟩
  · have hL : encL M p every = encF M p every.toNat := by unfold encL; rw [if_pos h]
    rw [hL, h]
    obtain ⟨va, vc, rfl, hm', hf⟩ := ho.reads
    exact ⟨va, vc, rfl, hm', hf, hb⟩
theorem sChangeU_c (w : World) (a a1 a2 : Option Addr) (n cap n1 c1 n2 c2 : Nat) (M : Mask) (x y : List Int) (hn : M.length = n) (hm : n ≤ maxLen) (H : RowsAt w a M) (h1 : x.length = n1) (m1 : n1 ≤ maxLen) (H1 : IntsAt w a1 x) (h2 : y.length = n2) (m2 : n2 ≤ maxLen) (H2 : IntsAt w a2 y) :
    Calls Try.prog 12 #[.slice a n cap, .slice a1 n1 c1, .slice a2 n2 c2] w fun e w' => ∃ va vc, e = .returned (.tuple #[.slice va (chL M x y).length vc, .int .i64 (chE M x y)]) ∧ (chL M x y).length ≤ maxLen ∧ IntsAt w' va (chL M x y) ∧ Below w.heap.size w w' := by
  refine (sChange_c w a a1 a2 n cap n1 c1 n2 c2 M x y hn hm H h1 m1 H1 h2 m2 H2).mono ?_
  rintro e w' ⟨hb, ⟨h, rfl⟩ | ⟨h, v, base, rfl, _, ho⟩⟩
  · have hL : chL M x y = [] := by unfold chL; rw [if_neg (by rw [h]; simp)]
    have hE : chE M x y = 1 := by unfold chE; rw [if_neg (by rw [h]; simp)]
    rw [hL, hE]
    exact ⟨none, 0, rfl, by decide, ints_nil, hb⟩
  · have hL : chL M x y = changeF x y := by unfold chL; rw [if_pos h]
    have hE : chE M x y = 0 := by unfold chE; rw [if_pos h]
    have hlen : (changeF x y).length = colsM M := by rw [changeF_len]; unfold picsB at h; simp at h; exact (pic_bnd h.2.2).1
    rw [hL, hE]
    obtain ⟨va, vc, rfl, hi, hm'⟩ := ints_of_own ho hlen
    exact ⟨va, vc, by rw [hlen], by rw [hlen]; exact hm', hi, hb⟩
theorem sSizesU_c (w : World) (a a2 : Option Addr) (n cap n2 cap2 : Nat) (M : Mask) (p : List (List Int)) (hn : M.length = n) (hm : n ≤ maxLen) (H : RowsAt w a M) (hn2 : p.length = n2) (hm2 : n2 ≤ maxLen) (hcap : n2 ≤ cap2) (H2 : RowsAt w a2 p) :
    Calls Try.prog 14 #[.slice a n cap, .slice a2 n2 cap2] w fun e w' => ∃ va vc, e = .returned (.tuple #[.slice va (szL M p).length vc, .int .i64 (szE M p)]) ∧ (szL M p).length ≤ maxLen ∧ IntsAt w' va (szL M p) ∧ Below w.heap.size w w' := by
  refine (sSizes_c w a a2 n cap n2 cap2 M p hn hm H hn2 hm2 hcap H2).mono ?_
  rintro e w' ⟨hb, ⟨h, rfl⟩ | ⟨h, v, base, rfl, _, ho⟩⟩
  · have hL : szL M p = [] := by unfold szL; rw [if_neg (by rw [h]; simp)]
    have hE : szE M p = 1 := by unfold szE; rw [if_neg (by rw [h]; simp)]
    rw [hL, hE]
    exact ⟨none, 0, rfl, by decide, ints_nil, hb⟩
  · have hL : szL M p = sizesF p := by unfold szL; rw [if_pos h]
    have hE : szE M p = 0 := by unfold szE; rw [if_pos h]
    have hlen : (sizesF p).length = n2 - 1 := by rw [sizesF_len, hn2]
    rw [hL, hE]
    obtain ⟨va, vc, rfl, hi, hm'⟩ := ints_of_own ho hlen
    exact ⟨va, vc, by rw [hlen], by rw [hlen]; exact hm', hi, hb⟩
theorem r8EncodeU_c (w : World) (a a2 : Option Addr) (n cap n2 cap2 : Nat) (M : Mask) (p : List (List Int)) (every : Int) (hn : M.length = n) (hm : n ≤ maxLen) (H : RowsAt w a M) (hn2 : p.length = n2) (hm2 : n2 ≤ maxLen) (H2 : RowsAt w a2 p) :
    Calls Try.prog 11 #[.slice a n cap, .slice a2 n2 cap2, .int .i64 every] w fun e w' => ∃ va vc, e = .returned (.tuple #[.slice va (encL M p every).length vc, .int .i64 (encE M p every)]) ∧ (encL M p every).length ≤ maxLen ∧ FramesAt w' va (encL M p every) ∧ Below w.heap.size w w' := by
  refine (r8Encode_c w a a2 n cap n2 cap2 M p every hn hm H hn2 hm2 H2).mono ?_
  rintro e w' ⟨hb, ⟨h, rfl⟩ | ⟨h, v, base, rfl, _, ho⟩⟩
  · have hL : encL M p every = [] := by unfold encL; rw [if_neg h]
    rw [hL]
    exact ⟨none, 0, rfl, by decide, frames_nil, hb⟩
  · have hL : encL M p every = encF M p every.toNat := by unfold encL; rw [if_pos h]
    rw [hL, h]
    obtain ⟨va, vc, rfl, hm', hf⟩ := ho.reads
    exact ⟨va, vc, rfl, hm', hf, hb⟩
theorem r8ChangeU_c (w : World) (a a1 a2 : Option Addr) (n cap n1 c1 n2 c2 : Nat) (M : Mask) (x y : List Int) (hn : M.length = n) (hm : n ≤ maxLen) (H : RowsAt w a M) (h1 : x.length = n1) (m1 : n1 ≤ maxLen) (H1 : IntsAt w a1 x) (h2 : y.length = n2) (m2 : n2 ≤ maxLen) (H2 : IntsAt w a2 y) :
    Calls Try.prog 13 #[.slice a n cap, .slice a1 n1 c1, .slice a2 n2 c2] w fun e w' => ∃ va vc, e = .returned (.tuple #[.slice va (chL M x y).length vc, .int .i64 (chE M x y)]) ∧ (chL M x y).length ≤ maxLen ∧ IntsAt w' va (chL M x y) ∧ Below w.heap.size w w' := by
  refine (r8Change_c w a a1 a2 n cap n1 c1 n2 c2 M x y hn hm H h1 m1 H1 h2 m2 H2).mono ?_
  rintro e w' ⟨hb, ⟨h, rfl⟩ | ⟨h, v, base, rfl, _, ho⟩⟩
  · have hL : chL M x y = [] := by unfold chL; rw [if_neg (by rw [h]; simp)]
    have hE : chE M x y = 1 := by unfold chE; rw [if_neg (by rw [h]; simp)]
    rw [hL, hE]
    exact ⟨none, 0, rfl, by decide, ints_nil, hb⟩
  · have hL : chL M x y = changeF x y := by unfold chL; rw [if_pos h]
    have hE : chE M x y = 0 := by unfold chE; rw [if_pos h]
    have hlen : (changeF x y).length = colsM M := by rw [changeF_len]; unfold picsB at h; simp at h; exact (pic_bnd h.2.2).1
    rw [hL, hE]
    obtain ⟨va, vc, rfl, hi, hm'⟩ := ints_of_own ho hlen
    exact ⟨va, vc, by rw [hlen], by rw [hlen]; exact hm', hi, hb⟩
theorem r8SizesU_c (w : World) (a a2 : Option Addr) (n cap n2 cap2 : Nat) (M : Mask) (p : List (List Int)) (hn : M.length = n) (hm : n ≤ maxLen) (H : RowsAt w a M) (hn2 : p.length = n2) (hm2 : n2 ≤ maxLen) (hcap : n2 ≤ cap2) (H2 : RowsAt w a2 p) :
    Calls Try.prog 15 #[.slice a n cap, .slice a2 n2 cap2] w fun e w' => ∃ va vc, e = .returned (.tuple #[.slice va (szL M p).length vc, .int .i64 (szE M p)]) ∧ (szL M p).length ≤ maxLen ∧ IntsAt w' va (szL M p) ∧ Below w.heap.size w w' := by
  refine (r8Sizes_c w a a2 n cap n2 cap2 M p hn hm H hn2 hm2 hcap H2).mono ?_
  rintro e w' ⟨hb, ⟨h, rfl⟩ | ⟨h, v, base, rfl, _, ho⟩⟩
  · have hL : szL M p = [] := by unfold szL; rw [if_neg (by rw [h]; simp)]
    have hE : szE M p = 1 := by unfold szE; rw [if_neg (by rw [h]; simp)]
    rw [hL, hE]
    exact ⟨none, 0, rfl, by decide, ints_nil, hb⟩
  · have hL : szL M p = sizesF p := by unfold szL; rw [if_pos h]
    have hE : szE M p = 0 := by unfold szE; rw [if_pos h]
    have hlen : (sizesF p).length = n2 - 1 := by rw [sizesF_len, hn2]
    rw [hL, hE]
    obtain ⟨va, vc, rfl, hi, hm'⟩ := ints_of_own ho hlen
    exact ⟨va, vc, by rw [hlen], by rw [hlen]; exact hm', hi, hb⟩

theorem s8Ints_t (W : World) (a a2 : Option Addr) (n cap cap2 : Nat) (l : List Int) (hn : l.length = n) (hm : n ≤ maxLen) (H : IntsAt W a l) (H2 : IntsAt W a2 l) :
    Calls Try.prog 21 #[.slice a n cap, .slice a2 n cap2] W fun e w' => e = .returned (.bool true) ∧ Below W.heap.size W w' :=
  (s8Ints_c W a a2 n cap n cap2 l l hn hn hm hm H H2).mono fun e w' ⟨h1, k, h2⟩ => ⟨by rw [h1]; simp, by rw [h2]; exact below_drewN (Below.refl _ _) _⟩
theorem s8Frames_t (W : World) (a a2 : Option Addr) (n cap cap2 : Nat) (l : List Frm) (hn : l.length = n) (hm : n ≤ maxLen) (H : FramesAt W a l) (H2 : FramesAt W a2 l) :
    Calls Try.prog 20 #[.slice a n cap, .slice a2 n cap2] W fun e w' => e = .returned (.bool true) ∧ Below W.heap.size W w' :=
  (s8Frames_c W a a2 n cap n cap2 l l hn hn hm hm H H2).mono fun e w' ⟨h1, k, h2⟩ => ⟨by rw [h1]; simp, by rw [h2]; exact below_drewN (Below.refl _ _) _⟩
end Go.Proofs.Ytkmjeegnijohmaa

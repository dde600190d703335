/- Walk of the reference's faulty masks: faulty. -/
import Derived.Test.YthaampmdponhbaaGreatDoorFltT
namespace Go.Proofs.YthaampmdponhbaaGreatDoor
open Go.RowKit
set_option linter.unusedVariables false

theorem oneI (x : Int) : ∀ u ∈ [Value.int .i64 x], u.oneCell' = true := by intro u hu; simp at hu; subst hu; rfl
theorem snoc_int {l l2 : List Int} {x : Int} (h : l2 = l ++ [x]) : l2.map (Value.int .i64) = l.map (Value.int .i64) ++ [.int .i64 x] := by rw [h]; simp

set_option maxHeartbeats 4000000 in
set_option maxRecDepth 100000 in
theorem refFaulty_c (w : World) (a : Option Addr) (n cap : Nat) (M : Mask) (hn : M.length = n) (H : RowsAt w a M) (hM : okM M = true) (f : Flt) :
    Calls Tryz.prog 81 #[.slice a n cap, f.val] w fun e w' => ∃ v base, e = .returned v ∧ w.heap.size ≤ base ∧ RowsO 3 27 w' base (fun _ => True) v (refFl M f) ∧ Below w.heap.size w w' := by
  obtain ⟨m1, m6, c1, c10, hrows⟩ := okM_len hM
  obtain ⟨wf, hwf, hb0, hcells⟩ := fltBox w f
  have HH := hid H
  have HN := hid hn
  have HR := hid hrows
  have HC := hid hcells
  have HB0 := hid hb0
  have HFC := hid (fEl_cases f)
  have hs0 := hb0.size
  have hn6 : n ≤ 6 := by omega
  clear H hn hrows hcells m1 m6 c1 hM hb0
  obtain ⟨f', hf'⟩ : ∃ f', f' = f := ⟨_, rfl⟩
  have HFF := hid hf'
  rw [← hf'] at HFC ⊢
  obtain ⟨kind, row, pixel⟩ := f
  rw [hf']
  clear hf'
  unfold Flt.val
  simp only [] at HC hwf ⊢
  go_enter Tryz.func81, Tryz.ntmps81
  go_wp2
  rw [← hwf]
  clear hwf
  go_loopw [5, 13] (fun v i wr => ∃ k : Nat, k ≤ n ∧ i = .int .i64 k ∧ RowsO 3 27 wr wf.heap.size (fun _ => True) v ((refFl M f').take k) ∧ Below wf.heap.size wf wr) (fun _ i _ => n - (intOf i).toNat)
  case atStart => exact ⟨0, Nat.zero_le _, rfl, RowsO.nil _ _ _ _ _, Below.refl _ _⟩
  case round =>
    obtain ⟨wo, hwo⟩ : ∃ wo, wo = wr := ⟨_, rfl⟩
    subst hwo
    obtain ⟨k, hk, rfl, hR, hbk⟩ := hrel
    by_cases hlt : k < n
    · have hkM : k < M.length := by rw [HN.out]; exact hlt
      have hbw := chain HB0.out hbk
      obtain ⟨b, off, ra, rn, rc, rfl, hbs, hq0, hrn, hrm, hri⟩ := (HH.out.below hbw) k hkM
      obtain ⟨hrl, hrv⟩ := HR.out M[k] (List.getElem_mem hkM)
      obtain ⟨r, hr⟩ : ∃ r, r = M[k] := ⟨_, rfl⟩
      have htk := refFl_take f' M k hkM
      rw [← hr] at hrn hri hrl hrv htk
      have hrn10 : rn ≤ 10 := by omega
      have HRI := hid hri
      have HRN := hid hrn
      have HRV := hid hrv
      have HTK := hid htk
      have HRO := hid hR
      have HBK := hid hbk
      have hfl : (fRow f' k r).length = rn := by rw [← hrn]; simp [fRow]
      have HFL := hid hfl
      have hl0 : ((refFl M f').take k).length = k := by rw [List.length_take]; simp [refFl]; omega
      have HL0 := hid hl0
      clear hrn hri hrl hrv htk hR hbk hkM hr hfl hl0 hrm
      go_wp2
      go_loopw [8, 20] (fun v i wr => ∃ j : Nat, j ≤ rn ∧ i = .int .i64 j ∧ wr.ownsRow wo.heap.size 3 1 v j (((fRow f' k r).take j).map (Value.int .i64)) ∧ Below wo.heap.size wo wr) (fun _ i _ => rn - (intOf i).toNat)
      case atStart => exact ⟨0, Nat.zero_le _, rfl, World.ownsRow_nil _ _ _ _, Below.refl _ _⟩
      case round =>
        obtain ⟨j, hj, rfl, hown, hbj⟩ := hrel
        by_cases hjlt : j < rn
        · obtain ⟨b2, off2, rfl, hbs2, hc2⟩ := (HRI.out.below hbj) j (by rw [HRN.out]; exact hjlt)
          have hjr : j < r.length := by rw [HRN.out]; exact hjlt
          have hget : r[j]?.getD 0 = r[j] := by rw [List.getElem?_eq_getElem hjr]; rfl
          have htj := fRow_take f' k j r hjr
          have hV := HRV.out r[j] (List.getElem_mem hjr)
          rw [hget] at hc2
          obtain ⟨V, hVE⟩ : ∃ V, V = r[j] := ⟨_, rfl⟩
          rw [← hVE] at hc2 htj hV
          obtain ⟨hV1, hV2⟩ := hV
          obtain ⟨_, f0, f1, f2⟩ := HC.out wr (chain HBK.out hbj)
          have hcase := HFC.out k j V
          have HTJ := hid htj
          have HOW := hid hown
          have HBJ := hid hbj
          obtain ⟨va, vc, rfl⟩ := ownsRow_slice hown
          have M1 := hid (show j + 1 ≤ maxLen by unfold maxLen; omega)
          have M2 := hid (show (j + 1) * 8 ≤ 140737488355328 by omega)
          clear hown hbj htj hVE hget hjr
          rw [HFF.out] at hcase
          simp only [] at hcase
          rcases hcase with h | h | h | h | h | h | h | h
          · obtain ⟨g1, g2, g3, g4, g5, hE⟩ := h
            have HE := hid hE
            have M3 := hid (Nat.le_trans HBJ.out.size (le_alloc wr (.cells #[.int .i64 0] 3)))
            clear hE
            go_wp2_with (at_builtin; refine wpList_app _ rfl (.tmp 62) (.tmp 64) 27 rfl wo.heap.size 3 (.int .i64 0) 1 8 Tryz.underlying27 info_int rfl Nat.one_pos (.slice va j vc) j _ rfl (HOW.out.alloc _) (some ⟨wr.heap.size, 0, none⟩) 1 1 [.int .i64 0] rfl rfl no_none (one_news wr _ _) (oneI _) M1.out M2.out M3.out ?_; refine Stop.of ?_)
            refine Stop.go ?_
            intro a3 c3 w3 own3 g3
            have hB3 : Below wo.heap.size wo w3 := (HBJ.out.alloc HBJ.out.size _).grown g3 M3.out (fun q hq => (HOW.out.lt q hq).1)
            go_wp2
            refine ⟨⟨j + 1, by omega, by go_num, ?_, hB3⟩, by simp [intOf]; omega⟩
            have e2 := HE.out
            rw [← HFF.out] at e2
            rw [snoc_int HTJ.out, e2, List.map_take]
            exact own3
          · obtain ⟨g1, g2, g3, g4, g5, hE⟩ := h
            have HE := hid hE
            have M3 := hid (Nat.le_trans HBJ.out.size (le_alloc wr (.cells #[.int .i64 V] 3)))
            clear hE
            go_wp2_with (at_builtin; refine wpList_app _ rfl (.tmp 62) (.tmp 64) 27 rfl wo.heap.size 3 (.int .i64 0) 1 8 Tryz.underlying27 info_int rfl Nat.one_pos (.slice va j vc) j _ rfl (HOW.out.alloc _) (some ⟨wr.heap.size, 0, none⟩) 1 1 [.int .i64 V] rfl rfl no_none (one_news wr _ _) (oneI _) M1.out M2.out M3.out ?_; refine Stop.of ?_)
            refine Stop.go ?_
            intro a3 c3 w3 own3 g3
            have hB3 : Below wo.heap.size wo w3 := (HBJ.out.alloc HBJ.out.size _).grown g3 M3.out (fun q hq => (HOW.out.lt q hq).1)
            go_wp2
            refine ⟨⟨j + 1, by omega, by go_num, ?_, hB3⟩, by simp [intOf]; omega⟩
            have e2 := HE.out
            rw [← HFF.out] at e2
            rw [snoc_int HTJ.out, e2, List.map_take]
            exact own3
          · obtain ⟨g1, g2, g3, g4, g5, hE⟩ := h
            have HE := hid hE
            have M3 := hid (Nat.le_trans HBJ.out.size (le_alloc wr (.cells #[.int .i64 0] 3)))
            clear hE
            go_wp2_with (at_builtin; refine wpList_app _ rfl (.tmp 62) (.tmp 64) 27 rfl wo.heap.size 3 (.int .i64 0) 1 8 Tryz.underlying27 info_int rfl Nat.one_pos (.slice va j vc) j _ rfl (HOW.out.alloc _) (some ⟨wr.heap.size, 0, none⟩) 1 1 [.int .i64 0] rfl rfl no_none (one_news wr _ _) (oneI _) M1.out M2.out M3.out ?_; refine Stop.of ?_)
            refine Stop.go ?_
            intro a3 c3 w3 own3 g3
            have hB3 : Below wo.heap.size wo w3 := (HBJ.out.alloc HBJ.out.size _).grown g3 M3.out (fun q hq => (HOW.out.lt q hq).1)
            go_wp2
            refine ⟨⟨j + 1, by omega, by go_num, ?_, hB3⟩, by simp [intOf]; omega⟩
            have e2 := HE.out
            rw [← HFF.out] at e2
            rw [snoc_int HTJ.out, e2, List.map_take]
            exact own3
          · obtain ⟨g1, g2, g3, g4, g5, hE⟩ := h
            have HE := hid hE
            have M3 := hid (Nat.le_trans HBJ.out.size (le_alloc wr (.cells #[.int .i64 V] 3)))
            clear hE
            go_wp2_with (at_builtin; refine wpList_app _ rfl (.tmp 62) (.tmp 64) 27 rfl wo.heap.size 3 (.int .i64 0) 1 8 Tryz.underlying27 info_int rfl Nat.one_pos (.slice va j vc) j _ rfl (HOW.out.alloc _) (some ⟨wr.heap.size, 0, none⟩) 1 1 [.int .i64 V] rfl rfl no_none (one_news wr _ _) (oneI _) M1.out M2.out M3.out ?_; refine Stop.of ?_)
            refine Stop.go ?_
            intro a3 c3 w3 own3 g3
            have hB3 : Below wo.heap.size wo w3 := (HBJ.out.alloc HBJ.out.size _).grown g3 M3.out (fun q hq => (HOW.out.lt q hq).1)
            go_wp2
            refine ⟨⟨j + 1, by omega, by go_num, ?_, hB3⟩, by simp [intOf]; omega⟩
            have e2 := HE.out
            rw [← HFF.out] at e2
            rw [snoc_int HTJ.out, e2, List.map_take]
            exact own3
          · obtain ⟨g1, g2, g3, g4, g5, hE⟩ := h
            have HE := hid hE
            have M3 := hid (Nat.le_trans HBJ.out.size (le_alloc wr (.cells #[.int .i64 (-V)] 3)))
            clear hE
            go_wp2_with (at_builtin; refine wpList_app _ rfl (.tmp 62) (.tmp 64) 27 rfl wo.heap.size 3 (.int .i64 0) 1 8 Tryz.underlying27 info_int rfl Nat.one_pos (.slice va j vc) j _ rfl (HOW.out.alloc _) (some ⟨wr.heap.size, 0, none⟩) 1 1 [.int .i64 (-V)] rfl rfl no_none (one_news wr _ _) (oneI _) M1.out M2.out M3.out ?_; refine Stop.of ?_)
            refine Stop.go ?_
            intro a3 c3 w3 own3 g3
            have hB3 : Below wo.heap.size wo w3 := (HBJ.out.alloc HBJ.out.size _).grown g3 M3.out (fun q hq => (HOW.out.lt q hq).1)
            go_wp2
            refine ⟨⟨j + 1, by omega, by go_num, ?_, hB3⟩, by simp [intOf]; omega⟩
            have e2 := HE.out
            rw [← HFF.out] at e2
            rw [snoc_int HTJ.out, e2, List.map_take]
            exact own3
          · obtain ⟨g1, g2, g3, g4, g5, hE⟩ := h
            have HE := hid hE
            have M3 := hid (Nat.le_trans HBJ.out.size (le_alloc wr (.cells #[.int .i64 V] 3)))
            clear hE
            go_wp2_with (at_builtin; refine wpList_app _ rfl (.tmp 62) (.tmp 64) 27 rfl wo.heap.size 3 (.int .i64 0) 1 8 Tryz.underlying27 info_int rfl Nat.one_pos (.slice va j vc) j _ rfl (HOW.out.alloc _) (some ⟨wr.heap.size, 0, none⟩) 1 1 [.int .i64 V] rfl rfl no_none (one_news wr _ _) (oneI _) M1.out M2.out M3.out ?_; refine Stop.of ?_)
            refine Stop.go ?_
            intro a3 c3 w3 own3 g3
            have hB3 : Below wo.heap.size wo w3 := (HBJ.out.alloc HBJ.out.size _).grown g3 M3.out (fun q hq => (HOW.out.lt q hq).1)
            go_wp2
            refine ⟨⟨j + 1, by omega, by go_num, ?_, hB3⟩, by simp [intOf]; omega⟩
            have e2 := HE.out
            rw [← HFF.out] at e2
            rw [snoc_int HTJ.out, e2, List.map_take]
            exact own3
          · obtain ⟨g1, g2, g3, g4, g5, hE⟩ := h
            have HE := hid hE
            have M3 := hid (Nat.le_trans HBJ.out.size (le_alloc wr (.cells #[.int .i64 V] 3)))
            clear hE
            go_wp2_with (at_builtin; refine wpList_app _ rfl (.tmp 62) (.tmp 64) 27 rfl wo.heap.size 3 (.int .i64 0) 1 8 Tryz.underlying27 info_int rfl Nat.one_pos (.slice va j vc) j _ rfl (HOW.out.alloc _) (some ⟨wr.heap.size, 0, none⟩) 1 1 [.int .i64 V] rfl rfl no_none (one_news wr _ _) (oneI _) M1.out M2.out M3.out ?_; refine Stop.of ?_)
            refine Stop.go ?_
            intro a3 c3 w3 own3 g3
            have hB3 : Below wo.heap.size wo w3 := (HBJ.out.alloc HBJ.out.size _).grown g3 M3.out (fun q hq => (HOW.out.lt q hq).1)
            go_wp2
            refine ⟨⟨j + 1, by omega, by go_num, ?_, hB3⟩, by simp [intOf]; omega⟩
            have e2 := HE.out
            rw [← HFF.out] at e2
            rw [snoc_int HTJ.out, e2, List.map_take]
            exact own3
          · obtain ⟨g1, g2, g3, g4, g5, hE⟩ := h
            have HE := hid hE
            have M3 := hid (Nat.le_trans HBJ.out.size (le_alloc wr (.cells #[.int .i64 V] 3)))
            clear hE
            go_wp2_with (at_builtin; refine wpList_app _ rfl (.tmp 62) (.tmp 64) 27 rfl wo.heap.size 3 (.int .i64 0) 1 8 Tryz.underlying27 info_int rfl Nat.one_pos (.slice va j vc) j _ rfl (HOW.out.alloc _) (some ⟨wr.heap.size, 0, none⟩) 1 1 [.int .i64 V] rfl rfl no_none (one_news wr _ _) (oneI _) M1.out M2.out M3.out ?_; refine Stop.of ?_)
            refine Stop.go ?_
            intro a3 c3 w3 own3 g3
            have hB3 : Below wo.heap.size wo w3 := (HBJ.out.alloc HBJ.out.size _).grown g3 M3.out (fun q hq => (HOW.out.lt q hq).1)
            go_wp2
            refine ⟨⟨j + 1, by omega, by go_num, ?_, hB3⟩, by simp [intOf]; omega⟩
            have e2 := HE.out
            rw [← HFF.out] at e2
            rw [snoc_int HTJ.out, e2, List.map_take]
            exact own3
        · obtain rfl : j = rn := by omega
          rw [List.take_of_length_le (by rw [HFL.out]; exact Nat.le_refl _)] at hown
          obtain ⟨vs, ho, hg, he⟩ := HRO.out.keep (Keep.of_below hbj)
          rw [HL0.out] at ho
          have hel : ElemI 3 wr wf.heap.size (fun _ => True) u8 (fRow f' k r) := ElemI.own' hown rfl HFL.out (by unfold maxLen; omega) (fun _ _ => trivial)
          have HO := hid ho
          have HE := hid he
          have HEL := hid hel
          obtain ⟨va, vc, rfl⟩ := ownsRow_slice hown
          have HBJ := hid hbj
          have M1 := hid (show k + 1 ≤ maxLen by unfold maxLen; omega)
          have M2 := hid (show (k + 1) * 24 ≤ 140737488355328 by omega)
          have M3 := hid (show wf.heap.size ≤ (wr.alloc (.cells #[.slice va j vc] 27)).heap.size from by have := HBK.out.size; have := HBJ.out.size; simp; omega)
          clear ho he hel hown hbj hg
          go_wp2_with (at_builtin; refine wpList_app _ rfl (.tmp 67) (.tmp 69) 23 rfl wf.heap.size 27 (.slice none 0 0) 1 24 Tryz.underlying23 info_ints rfl Nat.one_pos u5 k vs rfl (HO.out.alloc _) (some ⟨wr.heap.size, 0, none⟩) 1 1 [.slice va j vc] rfl rfl no_none (one_news wr _ _) (slice_oneCell _ _ _) M1.out M2.out M3.out ?_; refine Stop.of ?_)
          refine Stop.go ?_
          intro a3 c3 w3 own3 g3
          have hR3 : RowsO 3 27 w3 wf.heap.size (fun _ => True) (.slice a3 (k + 1) c3) ((refFl M f').take k ++ [fRow f' k r]) :=
            RowsO.snoc (by decide) (by rw [HL0.out]; exact HO.out) HE.out HEL.out ((Below.refl _ wr).alloc (Nat.le_refl _) _) g3 (by rw [HL0.out]; exact own3) (fun _ _ => trivial)
          have hb3 : Below wf.heap.size wf w3 := ((HBK.out.trans (HBJ.out.mono HBK.out.size)).alloc (by have := HBK.out.size; have := HBJ.out.size; omega) _).grown g3 M3.out (fun q hq => (HO.out.lt q hq).1)
          go_wp2
          exact ⟨⟨k + 1, by omega, by go_num, by rw [HTK.out]; exact hR3, hb3⟩, by simp [intOf]; omega⟩
    · obtain rfl : k = n := by omega
      rw [List.take_of_length_le (by simp [refFl, HN.out])] at hR
      go_wp2
      go_ret
      refine ⟨_, wf.heap.size, rfl, HB0.out.size, ?_, chain HB0.out hbk⟩
      rw [← HFF.out]
      exact hR

theorem refFaulty_r (w : World) (a : Option Addr) (n cap : Nat) (M : Mask) (hn : M.length = n) (H : RowsAt w a M) (hM : okM M = true) (f : Flt) (hf : okF M f = true) :
    Calls Tryz.prog 81 #[.slice a n cap, f.val] w fun e w' => ∃ v base, e = .returned v ∧ w.heap.size ≤ base ∧ RowsO 3 27 w' base (fun _ => True) v (faultyM M f) ∧ Below w.heap.size w w' := by
  rw [← refFl_eq hM hf]
  exact refFaulty_c w a n cap M hn H hM f

end Go.Proofs.YthaampmdponhbaaGreatDoor

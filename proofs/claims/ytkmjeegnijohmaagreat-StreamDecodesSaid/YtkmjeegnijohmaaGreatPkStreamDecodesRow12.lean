/- Walks and plain laws for StreamDecodesRow, part 12. -/
import Derived.Test.YtkmjeegnijohmaaGreatPkStreamDecodesRow11
namespace Go.Proofs.YtkmjeegnijohmaaGreat
open Go.RowKit
set_option linter.unusedVariables false

theorem s8Bools_t (W : World) (a a2 : Option Addr) (n cap cap2 : Nat) (l : List Bool) (hn : l.length = n) (hm : n ≤ maxLen) (H : BoolsAt W a l) (H2 : BoolsAt W a2 l) :
    Calls Tryz.prog 21 #[.slice a n cap, .slice a2 n cap2] W fun e w' => e = .returned (.bool true) ∧ Below W.heap.size W w' :=
  (s8Bools_c W a a2 n cap n cap2 l l hn hn hm hm H H2).mono fun e w' ⟨h1, k, h2⟩ => ⟨by rw [h1]; simp, by rw [h2]; exact below_drewN (Below.refl _ _) _⟩
theorem s8Lists_t (W : World) (a a2 : Option Addr) (n cap cap2 : Nat) (l : List (List Int)) (hn : l.length = n) (hm : n ≤ maxLen) (H : RowsAt W a l) (H2 : RowsAt W a2 l) :
    Calls Tryz.prog 20 #[.slice a n cap, .slice a2 n cap2] W fun e w' => e = .returned (.bool true) ∧ Below W.heap.size W w' :=
  (s8Lists_c W a a2 n cap n cap2 l l hn hn hm hm H H2).mono fun e w' ⟨h1, k, h2⟩ => ⟨by rw [h1]; simp, by rw [h2]; exact below_drewN (Below.refl _ _) _⟩

def keyB (f : Frm) : Bool := f.1 && decide (0 < f.2.length)
theorem dec_key {M : Mask} {k : Int} {F : List Frm} {t : Nat} (ht : t < F.length) (h : keyB F[t] = true) : decAt M k F (t + 1) = some F[t].2 := by
  show nextF M k (decAt M k F t) (F[t]?.getD (false, [])) = _
  rw [List.getElem?_eq_getElem ht, Option.getD_some]
  unfold keyB at h
  simp only [Bool.and_eq_true, decide_eq_true_eq] at h
  unfold nextF
  rw [if_neg (by omega), if_pos h.1]
theorem dec_old {M : Mask} {k : Int} {F : List Frm} {t : Nat} (ht : t < F.length) (h : keyB F[t] = false) (hs : (decAt M k F (t + 1)).isSome = true) : ∃ q, t = q + 1 ∧ (decAt M k F t).isSome = true := by
  have e : decAt M k F (t + 1) = nextF M k (decAt M k F t) F[t] := by
    show nextF M k (decAt M k F t) (F[t]?.getD (false, [])) = _
    rw [List.getElem?_eq_getElem ht, Option.getD_some]
  rw [e] at hs
  cases hd : decAt M k F t with
  | none =>
    rw [hd] at hs
    unfold nextF at hs
    unfold keyB at h
    split at hs
    · cases hs
    · rename_i h1
      split at hs
      · rename_i h2
        rw [h2, Bool.true_and, decide_eq_false_iff_not] at h
        exact absurd (by omega) h1
      · cases hs
  | some b =>
    cases t with
    | zero => cases hd
    | succ q => exact ⟨q, rfl, rfl⟩
theorem told_get {M : Mask} {F : List Frm} {k : Int} (h : askE M F k = 0) : decF M F k = decL M k F F.length ∧ (toldL M F k).length = F.length ∧ ∀ t, (ht : t < (toldL M F k).length) → (toldL M F k)[t] = (decAt M k F (t + 1)).isSome := by
  have e : decF M F k = decL M k F F.length := by unfold decF; rw [if_pos h]
  refine ⟨e, by unfold toldL; rw [e, List.length_map, decL_len], fun t ht => ?_⟩
  have e2 : toldL M F k = (decL M k F F.length).map (·.isSome) := by unfold toldL; rw [e]
  have : (toldL M F k)[t]? = some (decAt M k F (t + 1)).isSome := by
    rw [e2, List.getElem?_map, List.getElem?_eq_getElem (by rw [e2, List.length_map] at ht; exact ht), decL_get]; rfl
  rw [List.getElem?_eq_getElem ht] at this
  exact Option.some.inj this

set_option maxRecDepth 100000 in
set_option maxHeartbeats 4000000 in
theorem streamDecodes_c (w : World) (a : Option Addr) (n cap : Nat) (M : Mask) (hn : M.length = n) (hm : n ≤ maxLen) (H : RowsAt w a M) (_w0 : ∀ y ∈ M, ∀ z ∈ y, Fits64 z)
    (a1 : Option Addr) (n1 c1 : Nat) (F : List Frm) (hn1 : F.length = n1) (hm1 : n1 ≤ maxLen) (H1 : FramesAt w a1 F) (_w1 : ∀ y ∈ F, ∀ z ∈ y.2, Fits64 z)
    (k : Int) (_w2 : Fits64 k) :
    Calls Tryz.prog 4 #[.slice a n cap, .slice a1 n1 c1, .int .i64 k] w fun e w' => e = .returned (.bool true) ∧ Below w.heap.size w w' := by
  clear _w0 _w1 _w2
  have HFit := hid (l8fit_c w a n cap M hn hm H)
  have HF1 := hid (l8frames_c w a1 n1 c1 F hn1 hm1 H1 10)
  have HD1 := hid (fun (X : World) (hX : Below w.heap.size w X) => sDecode_c X a a1 n cap n1 c1 M F k hn hm (H.below hX) hn1 hm1 (H1.below hX))
  have HD2 := hid (fun (X : World) (hX : Below w.heap.size w X) => r8Decode_c X a a1 n cap n1 c1 M F k hn hm (H.below hX) hn1 hm1 (H1.below hX))
  have HM1 := hid (fun (X : World) (hX : Below w.heap.size w X) => sMissing_c X a a1 n cap n1 c1 M F k hn hm (H.below hX) hn1 hm1 (H1.below hX))
  have HM2 := hid (fun (X : World) (hX : Below w.heap.size w X) => r8Missing_c X a a1 n cap n1 c1 M F k hn hm (H.below hX) hn1 hm1 (H1.below hX))
  have HTG := hid (fun (h : askE M F k = 0) => told_get h)
  have HV := hid (fun (h : askE M F k = 0) => validB_ok (askE_ok h).1)
  have HFA := hid (fun (X : World) (hX : Below w.heap.size w X) => H1.below hX)
  have HN1 := hid hn1
  have HDK := hid (fun (t : Nat) (ht : t < F.length) (h : keyB F[t] = true) => dec_key (M := M) (k := k) ht h)
  have HDO := hid (fun (t : Nat) (ht : t < F.length) (h : keyB F[t] = false) (hs : (decAt M k F (t + 1)).isSome = true) => dec_old (M := M) (k := k) ht h hs)
  have hdlm : (decF M F k).length ≤ maxLen ∧ (missL M F k).length ≤ maxLen := by
    refine ⟨?_, ?_⟩
    · unfold decF; split
      · rw [decL_len, hn1]; exact hm1
      · simp
    · unfold missL; split
      · have := missTo_le M k F F.length
        show (missTo M k F F.length).length ≤ _
        omega
      · simp
  have HTL := hid (show (toldL M F k).length = (decF M F k).length by unfold toldL; rw [List.length_map])
  clear hn H hn1 H1
  unfold maxLen at hm hm1
  obtain ⟨D, hD⟩ : ∃ D, D = decF M F k := ⟨_, rfl⟩
  obtain ⟨T, hT⟩ : ∃ T, T = toldL M F k := ⟨_, rfl⟩
  obtain ⟨L, hL⟩ : ∃ L, L = missL M F k := ⟨_, rfl⟩
  obtain ⟨E, hE⟩ : ∃ E, E = askE M F k := ⟨_, rfl⟩
  rw [← hD, ← hT, ← hE] at HD1 HD2
  rw [← hL, ← hE] at HM1 HM2
  rw [← hD, ← hT, ← hE] at HTG
  rw [← hE] at HV
  rw [← hD, ← hL] at hdlm
  rw [← hD, ← hT] at HTL
  obtain ⟨hdm, hlm⟩ := hdlm
  have HDM := hid hdm
  have HLM := hid hlm
  obtain ⟨dn, hdn⟩ : ∃ d, d = D.length := ⟨_, rfl⟩
  obtain ⟨ln, hln⟩ : ∃ d, d = L.length := ⟨_, rfl⟩
  rw [HTL.out, ← hdn] at HD1 HD2
  rw [← hln] at HM1 HM2
  have HDN := hid hdn
  have HLN := hid hln
  have q3 : (E != E) = false := by simp
  clear hD hT hL hE hdm hlm hdn hln
  go_enter Tryz.func4, Tryz.ntmps4
  go_wp2_with first
    | (go_at_call 6; refine HFit.out.mono ?_; rintro e w1 ⟨⟨b1, rfl⟩, rfl⟩; cases b1)
    | (go_at_call 8; refine (awake8_c _).mono ?_; rintro e w2 ⟨rfl, hb2⟩)
    | (go_at_call 15; refine HF1.out.mono ?_; rintro e w1 ⟨⟨b3, rfl⟩, hb1⟩; cases b3 <;> refine Stop.of ?_)
  · go_ret
    exact ⟨rfl, hb2⟩
  · refine Stop.go ?_
    go_wp2_with first
      | (go_at_call 8; refine (awake8_c _).mono ?_; rintro e w2 ⟨rfl, hb2⟩)
    go_ret
    exact ⟨rfl, chain hb1 hb2⟩
  · refine Stop.go ?_
    have HB1 := hid hb1
    clear hb1 HFit HF1
    go_wp2_with (go_at_call 16; refine (HD1.out _ HB1.out).mono ?_; rintro e w2 ⟨pa, pc, ta, tc, rfl, hp, ht, hb2⟩; refine Stop.of ?_)
    refine Stop.go ?_
    have HB2 := hid (chain HB1.out hb2)
    have HP := hid hp
    have HT := hid ht
    clear hb2 HD1 HB1 hp ht
    go_wp2_with (go_at_call 17; refine (HD2.out _ HB2.out).mono ?_; rintro e w3 ⟨ra, rc, sa, sc, rfl, hr, hs, hb3⟩; refine Stop.of ?_)
    refine Stop.go ?_
    have HB3 := hid (chain HB2.out hb3)
    have HP3 := hid (HP.out.below hb3)
    have HT3 := hid (HT.out.below hb3)
    have HR3 := hid hr
    have HS3 := hid hs
    clear hb3 HD2 HB2 hr hs HP HT
    go_wp2_with (go_at_call 18; refine (HM1.out _ HB3.out).mono ?_; rintro e w4 ⟨ma, mc, rfl, hmi, hb4⟩; refine Stop.of ?_)
    refine Stop.go ?_
    have HB4 := hid (chain HB3.out hb4)
    have HP4 := hid (HP3.out.below hb4)
    have HT4 := hid (HT3.out.below hb4)
    have HR4 := hid (HR3.out.below hb4)
    have HS4 := hid (HS3.out.below hb4)
    have HMI := hid hmi
    clear hb4 HM1 HB3 hmi HP3 HT3 HR3 HS3
    go_wp2_with (go_at_call 19; refine (HM2.out _ HB4.out).mono ?_; rintro e w5 ⟨na, nc, rfl, hni, hb5⟩; refine Stop.of ?_)
    refine Stop.go ?_
    have HB5 := hid (chain HB4.out hb5)
    have HP5 := hid (HP4.out.below hb5)
    have HT5 := hid (HT4.out.below hb5)
    have HSL := hid (s8Lists_t w5 pa ra dn pc rc (D.map (·.getD [])) (by rw [List.length_map, HDN.out]) (by rw [HDN.out]; exact HDM.out) HP5.out.rows (HR4.out.below hb5).rows)
    have HSB := hid (fun (X : World) (hX : Below w5.heap.size w5 X) => s8Bools_t X ta sa dn tc sc T (by rw [HTL.out, HDN.out]) (by rw [HDN.out]; exact HDM.out) (HT5.out.below hX) ((HS4.out.below hb5).below hX))
    have HSI := hid (fun (X : World) (hX : Below w5.heap.size w5 X) => s8Ints_t X ma na ln mc nc L HLN.out.symm (by rw [HLN.out]; exact HLM.out) ((HMI.out.below hb5).below hX) (hni.below hX))
    clear hb5 HM2 HB4 hni HP4 HT4 HR4 HS4 HMI
    go_wp2_with first
      | (go_at_call 20; refine HSL.out.mono ?_; rintro e w6 ⟨rfl, hb6⟩)
      | (go_at_call 21; refine (HSB.out _ hb6).mono ?_; rintro e w7 ⟨rfl, hb7⟩)
      | (go_at_call 22; refine (HSI.out _ (chain hb6 hb7)).mono ?_; rintro e w8 ⟨rfl, hb8⟩; refine Stop.of ?_)
    refine Stop.go ?_
    have hb58 := chain (chain hb6 hb7) hb8
    have HB8 := hid (chain HB5.out hb58)
    have HP8 := hid (HP5.out.below hb58)
    have HT8 := hid (HT5.out.below hb58)
    clear hb6 hb7 hb8 hb58 HSL HSB HSI HP5 HT5 HB5
    by_cases hE0 : E = 0
    rotate_left
    · have hEn : (E != 0) = true := by simp [hE0]
      clear hE0 HTG HV
      go_wp2_with first
        | (go_at_call 8; refine (awake8_c _).mono ?_; rintro e w12 ⟨rfl, hb12⟩)
      go_ret
      exact ⟨rfl, chain HB8.out hb12⟩
    · obtain ⟨e1, e2, e3⟩ := HTG.out hE0
      obtain ⟨_, hF1, hF60, hFl⟩ := HV.out hE0
      have hn60 : n1 ≤ 60 := by have := HN1.out; omega
      have hEn : (E != 0) = false := by simp [hE0]
      have hFA := HFA.out _ HB8.out
      have HFA8 := hid hFA
      have HE1 := hid e1
      have HE2 := hid e2
      have HE3 := hid e3
      have HFL := hid hFl
      clear hE0 HTG HV e1 e2 e3 hF1 hF60 hFl hFA HFA
      go_wp2
      go_loopw [90] (fun i wr => ∃ t : Nat, t ≤ n1 ∧ i = .int .i64 t ∧ Below w8.heap.size w8 wr) (fun i _ => n1 - (intOf i).toNat)
      case atStart => exact ⟨0, Nat.zero_le _, rfl, Below.refl _ _⟩
      case round =>
        obtain ⟨t, ht, rfl, hbk⟩ := hrel
        by_cases hlt : t < n1
        · have htF : t < F.length := by rw [HN1.out]; exact hlt
          obtain ⟨fb, fo, xa, xn, xc, rfl, hfb, hf0, hf1, hxn, hxm, hxi⟩ := (HFA8.out.below hbk) t htF
          have hti : (t : Int) < (n1 : Int) := by omega
          have hti0 : (0 : Int) ≤ (t : Int) := by omega
          have hdl : t < T.length := by rw [HE2.out]; exact htF
          obtain ⟨tb, tf, rfl, htb, hct⟩ := (HT8.out.below hbk) t hdl
          rw [HE3.out t hdl] at hct
          have hpo := HP8.out.below hbk
          rw [HE1.out] at hpo
          obtain ⟨pb, po, ra, rn, rc, rfl, hpb, hcp, hrn, hrm, hri, _⟩ := hpo t (by rw [decL_len]; exact htF)
          rw [decL_get] at hrn hri
          have hdn1 : dn = n1 := by rw [HDN.out, HE1.out, decL_len, HN1.out]
          have htd : (t : Int) < (dn : Int) := by omega
          have hkk := HDK.out t htF
          have hko := HDO.out t htF
          obtain ⟨⟨kf, l⟩, hl⟩ : ∃ f, f = F[t]'htF := ⟨_, rfl⟩
          have hl60 : l.length ≤ 1000 := by have := HFL.out _ (List.getElem_mem htF); rw [← hl] at this; exact this
          rw [← hl] at hf0 hxn hxi hkk hko
          simp only [] at hf0 hxn hxi hkk
          have hba : ∀ o : Obj, Below wr.heap.size wr (wr.alloc o) := fun o => (Below.refl _ _).alloc (Nat.le_refl _) _
          cases hkb : keyB (kf, l)
          · have hko' := hko hkb
            have hkey : kf = false ∨ (kf = true ∧ xn = 0) := by
              unfold keyB at hkb
              cases kf
              · exact .inl rfl
              · refine .inr ⟨rfl, ?_⟩
                simp at hkb
                rw [← hxn, hkb]; rfl
            obtain ⟨B, hB⟩ : ∃ B, B = (decAt M k F (t + 1)).isSome := ⟨_, rfl⟩
            rw [← hB] at hct hko'
            have hqq : B = true → ∃ q, t = q + 1 ∧ wr.cell? ⟨tb, tf + q, none⟩ = some (.bool true) := fun hb => by
              obtain ⟨q, rfl, hq⟩ := hko' hb
              obtain ⟨tb', tf', e', _, hcq⟩ := (HT8.out.below hbk) q (by omega)
              cases e'
              rw [HE3.out q (by omega), hq] at hcq
              exact ⟨q, rfl, hcq⟩
            have hz0 : ∀ o : Obj, (wr.alloc o).heap[wr.heap.size]? = some o := fun o => World.alloc_heap_new _ _
            have HBK := hid hbk
            clear hkk hko hko' hkb hB hl hpo hrn hri hrm hcp hpb hxi hl60 hdl hbk
            cases B
            · have HW := hid (fun (o : Obj) => ((hba o).cell (p := ⟨tb, tf + t, none⟩) htb).trans hct)
              have HBA := hid hba
              clear hqq hct hba
              rcases hkey with rfl | ⟨rfl, rfl⟩
              · obtain ⟨y0, y1, _, _, _⟩ := box2_facts (hz0 (.cells #[.bool false, .slice xa xn xc] 47))
                go_wp2
                refine plain_region (fun j w' => decide (j < 40) = true → w'.cell? ⟨tb, tf + t, none⟩ = some (.bool false)) (by kernel_rfl) ?_
                have hS : (wr.alloc (.cells #[.bool false, .slice xa xn xc] 47)).drew.cell? ⟨tb, tf + t, none⟩ = some (.bool false) := HW.out (.cells #[.bool false, .slice xa xn xc] 47)
                have hbd := (HBA.out (.cells #[.bool false, .slice xa xn xc] 47)).drew
                generalize (wr.alloc (.cells #[.bool false, .slice xa xn xc] 47)).drew = wd at hS hbd ⊢
                refine AnyT.takeD (i := 0) (v := .bool false) rfl rfl (by kernel_rfl) (by kernel_rfl) (by kernel_rfl) (by first | exact (fun _ _ _ h => h) | exact (fun _ _ _ h => absurd h.1 (by simp))) (by kernel_rfl) (by rfl) (by rintro w' q1; go_simp) hS ?_; go_frame
                refine AnyT.takeD (i := 1) (v := .bool false) rfl rfl (by kernel_rfl) (by kernel_rfl) (by kernel_rfl) (by first | exact (fun _ _ _ h => h) | exact (fun _ _ _ h => absurd h.1 (by simp))) (by kernel_rfl) (by rfl) (by rintro w' q1; go_simp) hS ?_; go_frame
                refine AnyT.takeDN (i := 2) rfl rfl (by kernel_rfl) (by kernel_rfl) (by kernel_rfl) (by first | exact (fun _ _ _ h => h) | exact (fun _ _ _ h => absurd h.1 (by simp))) (by kernel_rfl) (by rfl) hS ?_; go_frame
                refine AnyT.takeDN (i := 3) rfl rfl (by kernel_rfl) (by kernel_rfl) (by kernel_rfl) (by first | exact (fun _ _ _ h => h) | exact (fun _ _ _ h => absurd h.1 (by simp))) (by kernel_rfl) (by rfl) hS ?_; go_frame
                refine AnyT.takeDN (i := 4) rfl rfl (by kernel_rfl) (by kernel_rfl) (by kernel_rfl) (by first | exact (fun _ _ _ h => h) | exact (fun _ _ _ h => absurd h.1 (by simp))) (by kernel_rfl) (by rfl) hS ?_; go_frame
                refine AnyT.takeDN (i := 5) rfl rfl (by kernel_rfl) (by kernel_rfl) (by kernel_rfl) (by first | exact (fun _ _ _ h => h) | exact (fun _ _ _ h => absurd h.1 (by simp))) (by kernel_rfl) (by rfl) hS ?_; go_frame
                refine AnyT.takeDN (i := 6) rfl rfl (by kernel_rfl) (by kernel_rfl) (by kernel_rfl) (by first | exact (fun _ _ _ h => h) | exact (fun _ _ _ h => absurd h.1 (by simp))) (by kernel_rfl) (by rfl) hS ?_; go_frame
                refine AnyT.takeDN (i := 7) rfl rfl (by kernel_rfl) (by kernel_rfl) (by kernel_rfl) (by first | exact (fun _ _ _ h => h) | exact (fun _ _ _ h => absurd h.1 (by simp))) (by kernel_rfl) (by rfl) hS ?_; go_frame
                refine AnyT.takeDN (i := 8) rfl rfl (by kernel_rfl) (by kernel_rfl) (by kernel_rfl) (by first | exact (fun _ _ _ h => h) | exact (fun _ _ _ h => absurd h.1 (by simp))) (by kernel_rfl) (by rfl) hS ?_; go_frame
                refine AnyT.takeDN (i := 9) rfl rfl (by kernel_rfl) (by kernel_rfl) (by kernel_rfl) (by first | exact (fun _ _ _ h => h) | exact (fun _ _ _ h => absurd h.1 (by simp))) (by kernel_rfl) (by rfl) hS ?_; go_frame
                refine AnyT.takeDN (i := 10) rfl rfl (by kernel_rfl) (by kernel_rfl) (by kernel_rfl) (by first | exact (fun _ _ _ h => h) | exact (fun _ _ _ h => absurd h.1 (by simp))) (by kernel_rfl) (by rfl) hS ?_; go_frame
                refine AnyT.takeDN (i := 11) rfl rfl (by kernel_rfl) (by kernel_rfl) (by kernel_rfl) (by first | exact (fun _ _ _ h => h) | exact (fun _ _ _ h => absurd h.1 (by simp))) (by kernel_rfl) (by rfl) hS ?_; go_frame
                refine AnyT.takeDN (i := 12) rfl rfl (by kernel_rfl) (by kernel_rfl) (by kernel_rfl) (by first | exact (fun _ _ _ h => h) | exact (fun _ _ _ h => absurd h.1 (by simp))) (by kernel_rfl) (by rfl) hS ?_; go_frame
                refine AnyT.takeDN (i := 13) rfl rfl (by kernel_rfl) (by kernel_rfl) (by kernel_rfl) (by first | exact (fun _ _ _ h => h) | exact (fun _ _ _ h => absurd h.1 (by simp))) (by kernel_rfl) (by rfl) hS ?_; go_frame
                refine AnyT.takeDN (i := 14) rfl rfl (by kernel_rfl) (by kernel_rfl) (by kernel_rfl) (by first | exact (fun _ _ _ h => h) | exact (fun _ _ _ h => absurd h.1 (by simp))) (by kernel_rfl) (by rfl) hS ?_; go_frame
                refine AnyT.takeDN (i := 15) rfl rfl (by kernel_rfl) (by kernel_rfl) (by kernel_rfl) (by first | exact (fun _ _ _ h => h) | exact (fun _ _ _ h => absurd h.1 (by simp))) (by kernel_rfl) (by rfl) hS ?_; go_frame
                refine AnyT.takeDN (i := 16) rfl rfl (by kernel_rfl) (by kernel_rfl) (by kernel_rfl) (by first | exact (fun _ _ _ h => h) | exact (fun _ _ _ h => absurd h.1 (by simp))) (by kernel_rfl) (by rfl) hS ?_; go_frame
                refine AnyT.takeD (i := 17) (v := .bool false) rfl rfl (by kernel_rfl) (by kernel_rfl) (by kernel_rfl) (by first | exact (fun _ _ _ h => h) | exact (fun _ _ _ h => absurd h.1 (by simp))) (by kernel_rfl) (by rfl) (by rintro w' q1; go_simp) hS ?_; go_frame
                refine AnyT.takeD (i := 18) (v := .bool false) rfl rfl (by kernel_rfl) (by kernel_rfl) (by kernel_rfl) (by first | exact (fun _ _ _ h => h) | exact (fun _ _ _ h => absurd h.1 (by simp))) (by kernel_rfl) (by rfl) (by rintro w' q1; go_simp) hS ?_; go_frame
                refine AnyT.takeD (i := 19) (v := .bool false) rfl rfl (by kernel_rfl) (by kernel_rfl) (by kernel_rfl) (by first | exact (fun _ _ _ h => h) | exact (fun _ _ _ h => absurd h.1 (by simp))) (by kernel_rfl) (by rfl) (by rintro w' q1; go_simp) hS ?_; go_frame
                refine AnyT.takeD (i := 20) (v := .bool true) rfl rfl (by kernel_rfl) (by kernel_rfl) (by kernel_rfl) (by first | exact (fun _ _ _ h => h) | exact (fun _ _ _ h => absurd h.1 (by simp))) (by kernel_rfl) (by rfl) (by rintro w' q1; go_simp) hS ?_; go_frame
                refine AnyT.takeD (i := 21) (v := .bool true) rfl rfl (by kernel_rfl) (by kernel_rfl) (by kernel_rfl) (by first | exact (fun _ _ _ h => h) | exact (fun _ _ _ h => absurd h.1 (by simp))) (by kernel_rfl) (by rfl) (by rintro w' q1; go_simp) hS ?_; go_frame
                refine AnyT.takeD (i := 22) (v := .slice (some ⟨tb, tf, none⟩) dn tc) rfl rfl (by kernel_rfl) (by kernel_rfl) (by kernel_rfl) (by first | exact (fun _ _ _ h => h) | exact (fun _ _ _ h => absurd h.1 (by simp))) (by kernel_rfl) (by rfl) (by rintro w' q1; go_simp) hS ?_; go_frame
                refine AnyT.takeD (i := 23) (v := .int .i64 t) rfl rfl (by kernel_rfl) (by kernel_rfl) (by kernel_rfl) (by first | exact (fun _ _ _ h => h) | exact (fun _ _ _ h => absurd h.1 (by simp))) (by kernel_rfl) (by rfl) (by rintro w' q1; go_simp) hS ?_; go_frame
                refine AnyT.takeD (i := 24) (v := .pointer (some ⟨tb, tf + t, none⟩)) rfl rfl (by kernel_rfl) (by kernel_rfl) (by kernel_rfl) (by first | exact (fun _ _ _ h => h) | exact (fun _ _ _ h => absurd h.1 (by simp))) (by kernel_rfl) (by rfl) (by rintro w' q1; go_simp) hS ?_; go_frame
                refine AnyT.takeD (i := 25) (v := .bool false) rfl rfl (by kernel_rfl) (by kernel_rfl) (by kernel_rfl) (by first | exact (fun _ _ _ h => h) | exact (fun _ _ _ h => absurd h.1 (by simp))) (by kernel_rfl) (by rfl) (by rintro w' q1; go_simp) hS ?_; go_frame
                refine AnyT.takeD (i := 26) (v := .bool false) rfl rfl (by kernel_rfl) (by kernel_rfl) (by kernel_rfl) (by first | exact (fun _ _ _ h => h) | exact (fun _ _ _ h => absurd h.1 (by simp))) (by kernel_rfl) (by rfl) (by rintro w' q1; go_simp) hS ?_; go_frame
                refine AnyT.takeD (i := 27) (v := .bool false) rfl rfl (by kernel_rfl) (by kernel_rfl) (by kernel_rfl) (by first | exact (fun _ _ _ h => h) | exact (fun _ _ _ h => absurd h.1 (by simp))) (by kernel_rfl) (by rfl) (by rintro w' q1; go_simp) hS ?_; go_frame
                refine AnyT.takeDN (i := 28) rfl rfl (by kernel_rfl) (by kernel_rfl) (by kernel_rfl) (by first | exact (fun _ _ _ h => h) | exact (fun _ _ _ h => absurd h.1 (by simp))) (by kernel_rfl) (by rfl) hS ?_; go_frame
                refine AnyT.takeDN (i := 29) rfl rfl (by kernel_rfl) (by kernel_rfl) (by kernel_rfl) (by first | exact (fun _ _ _ h => h) | exact (fun _ _ _ h => absurd h.1 (by simp))) (by kernel_rfl) (by rfl) hS ?_; go_frame
                refine AnyT.takeDN (i := 30) rfl rfl (by kernel_rfl) (by kernel_rfl) (by kernel_rfl) (by first | exact (fun _ _ _ h => h) | exact (fun _ _ _ h => absurd h.1 (by simp))) (by kernel_rfl) (by rfl) hS ?_; go_frame
                refine AnyT.takeDN (i := 31) rfl rfl (by kernel_rfl) (by kernel_rfl) (by kernel_rfl) (by first | exact (fun _ _ _ h => h) | exact (fun _ _ _ h => absurd h.1 (by simp))) (by kernel_rfl) (by rfl) hS ?_; go_frame
                refine AnyT.takeDN (i := 32) rfl rfl (by kernel_rfl) (by kernel_rfl) (by kernel_rfl) (by first | exact (fun _ _ _ h => h) | exact (fun _ _ _ h => absurd h.1 (by simp))) (by kernel_rfl) (by rfl) hS ?_; go_frame
                refine AnyT.takeDN (i := 33) rfl rfl (by kernel_rfl) (by kernel_rfl) (by kernel_rfl) (by first | exact (fun _ _ _ h => h) | exact (fun _ _ _ h => absurd h.1 (by simp))) (by kernel_rfl) (by rfl) hS ?_; go_frame
                refine AnyT.takeDN (i := 34) rfl rfl (by kernel_rfl) (by kernel_rfl) (by kernel_rfl) (by first | exact (fun _ _ _ h => h) | exact (fun _ _ _ h => absurd h.1 (by simp))) (by kernel_rfl) (by rfl) hS ?_; go_frame
                refine AnyT.takeDN (i := 35) rfl rfl (by kernel_rfl) (by kernel_rfl) (by kernel_rfl) (by first | exact (fun _ _ _ h => h) | exact (fun _ _ _ h => absurd h.1 (by simp))) (by kernel_rfl) (by rfl) hS ?_; go_frame
                refine AnyT.takeDN (i := 36) rfl rfl (by kernel_rfl) (by kernel_rfl) (by kernel_rfl) (by first | exact (fun _ _ _ h => h) | exact (fun _ _ _ h => absurd h.1 (by simp))) (by kernel_rfl) (by rfl) hS ?_; go_frame
                refine AnyT.takeDN (i := 37) rfl rfl (by kernel_rfl) (by kernel_rfl) (by kernel_rfl) (by first | exact (fun _ _ _ h => h) | exact (fun _ _ _ h => absurd h.1 (by simp))) (by kernel_rfl) (by rfl) hS ?_; go_frame
                refine AnyT.takeD (i := 38) (v := .bool false) rfl rfl (by kernel_rfl) (by kernel_rfl) (by kernel_rfl) (by first | exact (fun _ _ _ h => h) | exact (fun _ _ _ h => absurd h.1 (by simp))) (by kernel_rfl) (by rfl) (by rintro w' q1; go_simp) hS ?_; go_frame
                refine AnyT.takeD (i := 39) (v := .bool false) rfl rfl (by kernel_rfl) (by kernel_rfl) (by kernel_rfl) (by first | exact (fun _ _ _ h => h) | exact (fun _ _ _ h => absurd h.1 (by simp))) (by kernel_rfl) (by rfl) (by rintro w' q1; go_simp) hS ?_; go_frame
                refine ⟨by kernel_rfl, ?_⟩
                go_wp2
                exact ⟨⟨t + 1, by omega, by go_num, chain HBK.out hbd⟩, by simp [intOf]; omega⟩
              · obtain ⟨y0, y1, _, _, _⟩ := box2_facts (hz0 (.cells #[.bool true, .slice xa 0 xc] 47))
                go_wp2
                refine plain_region (fun j w' => decide (j < 40) = true → w'.cell? ⟨tb, tf + t, none⟩ = some (.bool false)) (by kernel_rfl) ?_
                have hS : (wr.alloc (.cells #[.bool true, .slice xa 0 xc] 47)).drew.cell? ⟨tb, tf + t, none⟩ = some (.bool false) := HW.out (.cells #[.bool true, .slice xa 0 xc] 47)
                have hbd := (HBA.out (.cells #[.bool true, .slice xa 0 xc] 47)).drew
                generalize (wr.alloc (.cells #[.bool true, .slice xa 0 xc] 47)).drew = wd at hS hbd ⊢
                refine AnyT.takeD (i := 0) (v := .bool false) rfl rfl (by kernel_rfl) (by kernel_rfl) (by kernel_rfl) (by first | exact (fun _ _ _ h => h) | exact (fun _ _ _ h => absurd h.1 (by simp))) (by kernel_rfl) (by rfl) (by rintro w' q1; go_simp) hS ?_; go_frame
                refine AnyT.takeD (i := 1) (v := .bool false) rfl rfl (by kernel_rfl) (by kernel_rfl) (by kernel_rfl) (by first | exact (fun _ _ _ h => h) | exact (fun _ _ _ h => absurd h.1 (by simp))) (by kernel_rfl) (by rfl) (by rintro w' q1; go_simp) hS ?_; go_frame
                refine AnyT.takeDN (i := 2) rfl rfl (by kernel_rfl) (by kernel_rfl) (by kernel_rfl) (by first | exact (fun _ _ _ h => h) | exact (fun _ _ _ h => absurd h.1 (by simp))) (by kernel_rfl) (by rfl) hS ?_; go_frame
                refine AnyT.takeDN (i := 3) rfl rfl (by kernel_rfl) (by kernel_rfl) (by kernel_rfl) (by first | exact (fun _ _ _ h => h) | exact (fun _ _ _ h => absurd h.1 (by simp))) (by kernel_rfl) (by rfl) hS ?_; go_frame
                refine AnyT.takeDN (i := 4) rfl rfl (by kernel_rfl) (by kernel_rfl) (by kernel_rfl) (by first | exact (fun _ _ _ h => h) | exact (fun _ _ _ h => absurd h.1 (by simp))) (by kernel_rfl) (by rfl) hS ?_; go_frame
                refine AnyT.takeDN (i := 5) rfl rfl (by kernel_rfl) (by kernel_rfl) (by kernel_rfl) (by first | exact (fun _ _ _ h => h) | exact (fun _ _ _ h => absurd h.1 (by simp))) (by kernel_rfl) (by rfl) hS ?_; go_frame
                refine AnyT.takeDN (i := 6) rfl rfl (by kernel_rfl) (by kernel_rfl) (by kernel_rfl) (by first | exact (fun _ _ _ h => h) | exact (fun _ _ _ h => absurd h.1 (by simp))) (by kernel_rfl) (by rfl) hS ?_; go_frame
                refine AnyT.takeDN (i := 7) rfl rfl (by kernel_rfl) (by kernel_rfl) (by kernel_rfl) (by first | exact (fun _ _ _ h => h) | exact (fun _ _ _ h => absurd h.1 (by simp))) (by kernel_rfl) (by rfl) hS ?_; go_frame
                refine AnyT.takeDN (i := 8) rfl rfl (by kernel_rfl) (by kernel_rfl) (by kernel_rfl) (by first | exact (fun _ _ _ h => h) | exact (fun _ _ _ h => absurd h.1 (by simp))) (by kernel_rfl) (by rfl) hS ?_; go_frame
                refine AnyT.takeDN (i := 9) rfl rfl (by kernel_rfl) (by kernel_rfl) (by kernel_rfl) (by first | exact (fun _ _ _ h => h) | exact (fun _ _ _ h => absurd h.1 (by simp))) (by kernel_rfl) (by rfl) hS ?_; go_frame
                refine AnyT.takeDN (i := 10) rfl rfl (by kernel_rfl) (by kernel_rfl) (by kernel_rfl) (by first | exact (fun _ _ _ h => h) | exact (fun _ _ _ h => absurd h.1 (by simp))) (by kernel_rfl) (by rfl) hS ?_; go_frame
                refine AnyT.takeDN (i := 11) rfl rfl (by kernel_rfl) (by kernel_rfl) (by kernel_rfl) (by first | exact (fun _ _ _ h => h) | exact (fun _ _ _ h => absurd h.1 (by simp))) (by kernel_rfl) (by rfl) hS ?_; go_frame
                refine AnyT.takeDN (i := 12) rfl rfl (by kernel_rfl) (by kernel_rfl) (by kernel_rfl) (by first | exact (fun _ _ _ h => h) | exact (fun _ _ _ h => absurd h.1 (by simp))) (by kernel_rfl) (by rfl) hS ?_; go_frame
                refine AnyT.takeDN (i := 13) rfl rfl (by kernel_rfl) (by kernel_rfl) (by kernel_rfl) (by first | exact (fun _ _ _ h => h) | exact (fun _ _ _ h => absurd h.1 (by simp))) (by kernel_rfl) (by rfl) hS ?_; go_frame
                refine AnyT.takeDN (i := 14) rfl rfl (by kernel_rfl) (by kernel_rfl) (by kernel_rfl) (by first | exact (fun _ _ _ h => h) | exact (fun _ _ _ h => absurd h.1 (by simp))) (by kernel_rfl) (by rfl) hS ?_; go_frame
                refine AnyT.takeDN (i := 15) rfl rfl (by kernel_rfl) (by kernel_rfl) (by kernel_rfl) (by first | exact (fun _ _ _ h => h) | exact (fun _ _ _ h => absurd h.1 (by simp))) (by kernel_rfl) (by rfl) hS ?_; go_frame
                refine AnyT.takeDN (i := 16) rfl rfl (by kernel_rfl) (by kernel_rfl) (by kernel_rfl) (by first | exact (fun _ _ _ h => h) | exact (fun _ _ _ h => absurd h.1 (by simp))) (by kernel_rfl) (by rfl) hS ?_; go_frame
                refine AnyT.takeD (i := 17) (v := .bool false) rfl rfl (by kernel_rfl) (by kernel_rfl) (by kernel_rfl) (by first | exact (fun _ _ _ h => h) | exact (fun _ _ _ h => absurd h.1 (by simp))) (by kernel_rfl) (by rfl) (by rintro w' q1; go_simp) hS ?_; go_frame
                refine AnyT.takeD (i := 18) (v := .bool false) rfl rfl (by kernel_rfl) (by kernel_rfl) (by kernel_rfl) (by first | exact (fun _ _ _ h => h) | exact (fun _ _ _ h => absurd h.1 (by simp))) (by kernel_rfl) (by rfl) (by rintro w' q1; go_simp) hS ?_; go_frame
                refine AnyT.takeD (i := 19) (v := .bool false) rfl rfl (by kernel_rfl) (by kernel_rfl) (by kernel_rfl) (by first | exact (fun _ _ _ h => h) | exact (fun _ _ _ h => absurd h.1 (by simp))) (by kernel_rfl) (by rfl) (by rintro w' q1; go_simp) hS ?_; go_frame
                refine AnyT.takeD (i := 20) (v := .bool true) rfl rfl (by kernel_rfl) (by kernel_rfl) (by kernel_rfl) (by first | exact (fun _ _ _ h => h) | exact (fun _ _ _ h => absurd h.1 (by simp))) (by kernel_rfl) (by rfl) (by rintro w' q1; go_simp) hS ?_; go_frame
                refine AnyT.takeD (i := 21) (v := .bool true) rfl rfl (by kernel_rfl) (by kernel_rfl) (by kernel_rfl) (by first | exact (fun _ _ _ h => h) | exact (fun _ _ _ h => absurd h.1 (by simp))) (by kernel_rfl) (by rfl) (by rintro w' q1; go_simp) hS ?_; go_frame
                refine AnyT.takeD (i := 22) (v := .slice (some ⟨tb, tf, none⟩) dn tc) rfl rfl (by kernel_rfl) (by kernel_rfl) (by kernel_rfl) (by first | exact (fun _ _ _ h => h) | exact (fun _ _ _ h => absurd h.1 (by simp))) (by kernel_rfl) (by rfl) (by rintro w' q1; go_simp) hS ?_; go_frame
                refine AnyT.takeD (i := 23) (v := .int .i64 t) rfl rfl (by kernel_rfl) (by kernel_rfl) (by kernel_rfl) (by first | exact (fun _ _ _ h => h) | exact (fun _ _ _ h => absurd h.1 (by simp))) (by kernel_rfl) (by rfl) (by rintro w' q1; go_simp) hS ?_; go_frame
                refine AnyT.takeD (i := 24) (v := .pointer (some ⟨tb, tf + t, none⟩)) rfl rfl (by kernel_rfl) (by kernel_rfl) (by kernel_rfl) (by first | exact (fun _ _ _ h => h) | exact (fun _ _ _ h => absurd h.1 (by simp))) (by kernel_rfl) (by rfl) (by rintro w' q1; go_simp) hS ?_; go_frame
                refine AnyT.takeD (i := 25) (v := .bool false) rfl rfl (by kernel_rfl) (by kernel_rfl) (by kernel_rfl) (by first | exact (fun _ _ _ h => h) | exact (fun _ _ _ h => absurd h.1 (by simp))) (by kernel_rfl) (by rfl) (by rintro w' q1; go_simp) hS ?_; go_frame
                refine AnyT.takeD (i := 26) (v := .bool false) rfl rfl (by kernel_rfl) (by kernel_rfl) (by kernel_rfl) (by first | exact (fun _ _ _ h => h) | exact (fun _ _ _ h => absurd h.1 (by simp))) (by kernel_rfl) (by rfl) (by rintro w' q1; go_simp) hS ?_; go_frame
                refine AnyT.takeD (i := 27) (v := .bool false) rfl rfl (by kernel_rfl) (by kernel_rfl) (by kernel_rfl) (by first | exact (fun _ _ _ h => h) | exact (fun _ _ _ h => absurd h.1 (by simp))) (by kernel_rfl) (by rfl) (by rintro w' q1; go_simp) hS ?_; go_frame
                refine AnyT.takeDN (i := 28) rfl rfl (by kernel_rfl) (by kernel_rfl) (by kernel_rfl) (by first | exact (fun _ _ _ h => h) | exact (fun _ _ _ h => absurd h.1 (by simp))) (by kernel_rfl) (by rfl) hS ?_; go_frame
                refine AnyT.takeDN (i := 29) rfl rfl (by kernel_rfl) (by kernel_rfl) (by kernel_rfl) (by first | exact (fun _ _ _ h => h) | exact (fun _ _ _ h => absurd h.1 (by simp))) (by kernel_rfl) (by rfl) hS ?_; go_frame
                refine AnyT.takeDN (i := 30) rfl rfl (by kernel_rfl) (by kernel_rfl) (by kernel_rfl) (by first | exact (fun _ _ _ h => h) | exact (fun _ _ _ h => absurd h.1 (by simp))) (by kernel_rfl) (by rfl) hS ?_; go_frame
                refine AnyT.takeDN (i := 31) rfl rfl (by kernel_rfl) (by kernel_rfl) (by kernel_rfl) (by first | exact (fun _ _ _ h => h) | exact (fun _ _ _ h => absurd h.1 (by simp))) (by kernel_rfl) (by rfl) hS ?_; go_frame
                refine AnyT.takeDN (i := 32) rfl rfl (by kernel_rfl) (by kernel_rfl) (by kernel_rfl) (by first | exact (fun _ _ _ h => h) | exact (fun _ _ _ h => absurd h.1 (by simp))) (by kernel_rfl) (by rfl) hS ?_; go_frame
                refine AnyT.takeDN (i := 33) rfl rfl (by kernel_rfl) (by kernel_rfl) (by kernel_rfl) (by first | exact (fun _ _ _ h => h) | exact (fun _ _ _ h => absurd h.1 (by simp))) (by kernel_rfl) (by rfl) hS ?_; go_frame
                refine AnyT.takeDN (i := 34) rfl rfl (by kernel_rfl) (by kernel_rfl) (by kernel_rfl) (by first | exact (fun _ _ _ h => h) | exact (fun _ _ _ h => absurd h.1 (by simp))) (by kernel_rfl) (by rfl) hS ?_; go_frame
                refine AnyT.takeDN (i := 35) rfl rfl (by kernel_rfl) (by kernel_rfl) (by kernel_rfl) (by first | exact (fun _ _ _ h => h) | exact (fun _ _ _ h => absurd h.1 (by simp))) (by kernel_rfl) (by rfl) hS ?_; go_frame
                refine AnyT.takeDN (i := 36) rfl rfl (by kernel_rfl) (by kernel_rfl) (by kernel_rfl) (by first | exact (fun _ _ _ h => h) | exact (fun _ _ _ h => absurd h.1 (by simp))) (by kernel_rfl) (by rfl) hS ?_; go_frame
                refine AnyT.takeDN (i := 37) rfl rfl (by kernel_rfl) (by kernel_rfl) (by kernel_rfl) (by first | exact (fun _ _ _ h => h) | exact (fun _ _ _ h => absurd h.1 (by simp))) (by kernel_rfl) (by rfl) hS ?_; go_frame
                refine AnyT.takeD (i := 38) (v := .bool false) rfl rfl (by kernel_rfl) (by kernel_rfl) (by kernel_rfl) (by first | exact (fun _ _ _ h => h) | exact (fun _ _ _ h => absurd h.1 (by simp))) (by kernel_rfl) (by rfl) (by rintro w' q1; go_simp) hS ?_; go_frame
                refine AnyT.takeD (i := 39) (v := .bool false) rfl rfl (by kernel_rfl) (by kernel_rfl) (by kernel_rfl) (by first | exact (fun _ _ _ h => h) | exact (fun _ _ _ h => absurd h.1 (by simp))) (by kernel_rfl) (by rfl) (by rintro w' q1; go_simp) hS ?_; go_frame
                refine ⟨by kernel_rfl, ?_⟩
                go_wp2
                exact ⟨⟨t + 1, by omega, by go_num, chain HBK.out hbd⟩, by simp [intOf]; omega⟩
            · obtain ⟨q, hq, hcq⟩ := hqq rfl
              have HW := hid (fun (o : Obj) => And.intro (((hba o).cell (p := ⟨tb, tf + t, none⟩) htb).trans hct) (((hba o).cell (p := ⟨tb, tf + q, none⟩) htb).trans hcq))
              have hz : ((t : Int) == 0) = false := by
                have : ¬ (t : Int) = 0 := by omega
                simpa using this
              have hw : wrap64 ((t : Int) - 1) = (q : Int) := by unfold wrap64; omega
              have hw2 : IntKind.i64.wrap ((t : Int) - 1) = (q : Int) := by rw [IntWalk.i64_left]; exact hw
              have hq0 : (0 : Int) ≤ (q : Int) := by omega
              have hqd : (q : Int) < (dn : Int) := by omega
              have hqn : q < n1 := by omega
              have HBA := hid hba
              have HQ := hid hq
              clear hqq hct hba hcq hq
              rcases hkey with rfl | ⟨rfl, rfl⟩
              · obtain ⟨y0, y1, _, _, _⟩ := box2_facts (hz0 (.cells #[.bool false, .slice xa xn xc] 47))
                go_wp2
                refine plain_region (fun j w' => decide (j < 40) = true → w'.cell? ⟨tb, tf + t, none⟩ = some (.bool true) ∧ w'.cell? ⟨tb, tf + q, none⟩ = some (.bool true)) (by kernel_rfl) ?_
                have hS : (wr.alloc (.cells #[.bool false, .slice xa xn xc] 47)).drew.cell? ⟨tb, tf + t, none⟩ = some (.bool true) ∧ (wr.alloc (.cells #[.bool false, .slice xa xn xc] 47)).drew.cell? ⟨tb, tf + q, none⟩ = some (.bool true) := HW.out (.cells #[.bool false, .slice xa xn xc] 47)
                have hbd := (HBA.out (.cells #[.bool false, .slice xa xn xc] 47)).drew
                generalize (wr.alloc (.cells #[.bool false, .slice xa xn xc] 47)).drew = wd at hS hbd ⊢
                refine AnyT.takeD (i := 0) (v := .bool false) rfl rfl (by kernel_rfl) (by kernel_rfl) (by kernel_rfl) (by first | exact (fun _ _ _ h => h) | exact (fun _ _ _ h => absurd h.1 (by simp))) (by kernel_rfl) (by rfl) (by rintro w' ⟨q1, q2⟩; go_simp) hS ?_; go_frame
                refine AnyT.takeD (i := 1) (v := .bool false) rfl rfl (by kernel_rfl) (by kernel_rfl) (by kernel_rfl) (by first | exact (fun _ _ _ h => h) | exact (fun _ _ _ h => absurd h.1 (by simp))) (by kernel_rfl) (by rfl) (by rintro w' ⟨q1, q2⟩; go_simp) hS ?_; go_frame
                refine AnyT.takeDN (i := 2) rfl rfl (by kernel_rfl) (by kernel_rfl) (by kernel_rfl) (by first | exact (fun _ _ _ h => h) | exact (fun _ _ _ h => absurd h.1 (by simp))) (by kernel_rfl) (by rfl) hS ?_; go_frame
                refine AnyT.takeDN (i := 3) rfl rfl (by kernel_rfl) (by kernel_rfl) (by kernel_rfl) (by first | exact (fun _ _ _ h => h) | exact (fun _ _ _ h => absurd h.1 (by simp))) (by kernel_rfl) (by rfl) hS ?_; go_frame
                refine AnyT.takeDN (i := 4) rfl rfl (by kernel_rfl) (by kernel_rfl) (by kernel_rfl) (by first | exact (fun _ _ _ h => h) | exact (fun _ _ _ h => absurd h.1 (by simp))) (by kernel_rfl) (by rfl) hS ?_; go_frame
                refine AnyT.takeDN (i := 5) rfl rfl (by kernel_rfl) (by kernel_rfl) (by kernel_rfl) (by first | exact (fun _ _ _ h => h) | exact (fun _ _ _ h => absurd h.1 (by simp))) (by kernel_rfl) (by rfl) hS ?_; go_frame
                refine AnyT.takeDN (i := 6) rfl rfl (by kernel_rfl) (by kernel_rfl) (by kernel_rfl) (by first | exact (fun _ _ _ h => h) | exact (fun _ _ _ h => absurd h.1 (by simp))) (by kernel_rfl) (by rfl) hS ?_; go_frame
                refine AnyT.takeDN (i := 7) rfl rfl (by kernel_rfl) (by kernel_rfl) (by kernel_rfl) (by first | exact (fun _ _ _ h => h) | exact (fun _ _ _ h => absurd h.1 (by simp))) (by kernel_rfl) (by rfl) hS ?_; go_frame
                refine AnyT.takeDN (i := 8) rfl rfl (by kernel_rfl) (by kernel_rfl) (by kernel_rfl) (by first | exact (fun _ _ _ h => h) | exact (fun _ _ _ h => absurd h.1 (by simp))) (by kernel_rfl) (by rfl) hS ?_; go_frame
                refine AnyT.takeDN (i := 9) rfl rfl (by kernel_rfl) (by kernel_rfl) (by kernel_rfl) (by first | exact (fun _ _ _ h => h) | exact (fun _ _ _ h => absurd h.1 (by simp))) (by kernel_rfl) (by rfl) hS ?_; go_frame
                refine AnyT.takeDN (i := 10) rfl rfl (by kernel_rfl) (by kernel_rfl) (by kernel_rfl) (by first | exact (fun _ _ _ h => h) | exact (fun _ _ _ h => absurd h.1 (by simp))) (by kernel_rfl) (by rfl) hS ?_; go_frame
                refine AnyT.takeDN (i := 11) rfl rfl (by kernel_rfl) (by kernel_rfl) (by kernel_rfl) (by first | exact (fun _ _ _ h => h) | exact (fun _ _ _ h => absurd h.1 (by simp))) (by kernel_rfl) (by rfl) hS ?_; go_frame
                refine AnyT.takeDN (i := 12) rfl rfl (by kernel_rfl) (by kernel_rfl) (by kernel_rfl) (by first | exact (fun _ _ _ h => h) | exact (fun _ _ _ h => absurd h.1 (by simp))) (by kernel_rfl) (by rfl) hS ?_; go_frame
                refine AnyT.takeDN (i := 13) rfl rfl (by kernel_rfl) (by kernel_rfl) (by kernel_rfl) (by first | exact (fun _ _ _ h => h) | exact (fun _ _ _ h => absurd h.1 (by simp))) (by kernel_rfl) (by rfl) hS ?_; go_frame
                refine AnyT.takeDN (i := 14) rfl rfl (by kernel_rfl) (by kernel_rfl) (by kernel_rfl) (by first | exact (fun _ _ _ h => h) | exact (fun _ _ _ h => absurd h.1 (by simp))) (by kernel_rfl) (by rfl) hS ?_; go_frame
                refine AnyT.takeDN (i := 15) rfl rfl (by kernel_rfl) (by kernel_rfl) (by kernel_rfl) (by first | exact (fun _ _ _ h => h) | exact (fun _ _ _ h => absurd h.1 (by simp))) (by kernel_rfl) (by rfl) hS ?_; go_frame
                refine AnyT.takeDN (i := 16) rfl rfl (by kernel_rfl) (by kernel_rfl) (by kernel_rfl) (by first | exact (fun _ _ _ h => h) | exact (fun _ _ _ h => absurd h.1 (by simp))) (by kernel_rfl) (by rfl) hS ?_; go_frame
                refine AnyT.takeD (i := 17) (v := .bool false) rfl rfl (by kernel_rfl) (by kernel_rfl) (by kernel_rfl) (by first | exact (fun _ _ _ h => h) | exact (fun _ _ _ h => absurd h.1 (by simp))) (by kernel_rfl) (by rfl) (by rintro w' ⟨q1, q2⟩; go_simp) hS ?_; go_frame
                refine AnyT.takeD (i := 18) (v := .bool false) rfl rfl (by kernel_rfl) (by kernel_rfl) (by kernel_rfl) (by first | exact (fun _ _ _ h => h) | exact (fun _ _ _ h => absurd h.1 (by simp))) (by kernel_rfl) (by rfl) (by rintro w' ⟨q1, q2⟩; go_simp) hS ?_; go_frame
                refine AnyT.takeD (i := 19) (v := .bool false) rfl rfl (by kernel_rfl) (by kernel_rfl) (by kernel_rfl) (by first | exact (fun _ _ _ h => h) | exact (fun _ _ _ h => absurd h.1 (by simp))) (by kernel_rfl) (by rfl) (by rintro w' ⟨q1, q2⟩; go_simp) hS ?_; go_frame
                refine AnyT.takeD (i := 20) (v := .bool true) rfl rfl (by kernel_rfl) (by kernel_rfl) (by kernel_rfl) (by first | exact (fun _ _ _ h => h) | exact (fun _ _ _ h => absurd h.1 (by simp))) (by kernel_rfl) (by rfl) (by rintro w' ⟨q1, q2⟩; go_simp) hS ?_; go_frame
                refine AnyT.takeD (i := 21) (v := .bool true) rfl rfl (by kernel_rfl) (by kernel_rfl) (by kernel_rfl) (by first | exact (fun _ _ _ h => h) | exact (fun _ _ _ h => absurd h.1 (by simp))) (by kernel_rfl) (by rfl) (by rintro w' ⟨q1, q2⟩; go_simp) hS ?_; go_frame
                refine AnyT.takeD (i := 22) (v := .slice (some ⟨tb, tf, none⟩) dn tc) rfl rfl (by kernel_rfl) (by kernel_rfl) (by kernel_rfl) (by first | exact (fun _ _ _ h => h) | exact (fun _ _ _ h => absurd h.1 (by simp))) (by kernel_rfl) (by rfl) (by rintro w' ⟨q1, q2⟩; go_simp) hS ?_; go_frame
                refine AnyT.takeD (i := 23) (v := .int .i64 t) rfl rfl (by kernel_rfl) (by kernel_rfl) (by kernel_rfl) (by first | exact (fun _ _ _ h => h) | exact (fun _ _ _ h => absurd h.1 (by simp))) (by kernel_rfl) (by rfl) (by rintro w' ⟨q1, q2⟩; go_simp) hS ?_; go_frame
                refine AnyT.takeD (i := 24) (v := .pointer (some ⟨tb, tf + t, none⟩)) rfl rfl (by kernel_rfl) (by kernel_rfl) (by kernel_rfl) (by first | exact (fun _ _ _ h => h) | exact (fun _ _ _ h => absurd h.1 (by simp))) (by kernel_rfl) (by rfl) (by rintro w' ⟨q1, q2⟩; go_simp) hS ?_; go_frame
                refine AnyT.takeD (i := 25) (v := .bool true) rfl rfl (by kernel_rfl) (by kernel_rfl) (by kernel_rfl) (by first | exact (fun _ _ _ h => h) | exact (fun _ _ _ h => absurd h.1 (by simp))) (by kernel_rfl) (by rfl) (by rintro w' ⟨q1, q2⟩; go_simp) hS ?_; go_frame
                refine AnyT.takeD (i := 26) (v := .bool true) rfl rfl (by kernel_rfl) (by kernel_rfl) (by kernel_rfl) (by first | exact (fun _ _ _ h => h) | exact (fun _ _ _ h => absurd h.1 (by simp))) (by kernel_rfl) (by rfl) (by rintro w' ⟨q1, q2⟩; go_simp) hS ?_; go_frame
                refine AnyT.takeD (i := 27) (v := .bool true) rfl rfl (by kernel_rfl) (by kernel_rfl) (by kernel_rfl) (by first | exact (fun _ _ _ h => h) | exact (fun _ _ _ h => absurd h.1 (by simp))) (by kernel_rfl) (by rfl) (by rintro w' ⟨q1, q2⟩; go_simp) hS ?_; go_frame
                refine AnyT.takeD (i := 28) (v := .int .i64 t) rfl rfl (by kernel_rfl) (by kernel_rfl) (by kernel_rfl) (by first | exact (fun _ _ _ h => h) | exact (fun _ _ _ h => absurd h.1 (by simp))) (by kernel_rfl) (by rfl) (by rintro w' ⟨q1, q2⟩; go_simp) hS ?_; go_frame
                refine AnyT.takeD (i := 29) (v := .bool false) rfl rfl (by kernel_rfl) (by kernel_rfl) (by kernel_rfl) (by first | exact (fun _ _ _ h => h) | exact (fun _ _ _ h => absurd h.1 (by simp))) (by kernel_rfl) (by rfl) (by rintro w' ⟨q1, q2⟩; go_simp) hS ?_; go_frame
                refine AnyT.takeD (i := 30) (v := .bool false) rfl rfl (by kernel_rfl) (by kernel_rfl) (by kernel_rfl) (by first | exact (fun _ _ _ h => h) | exact (fun _ _ _ h => absurd h.1 (by simp))) (by kernel_rfl) (by rfl) (by rintro w' ⟨q1, q2⟩; go_simp) hS ?_; go_frame
                refine AnyT.takeD (i := 31) (v := .slice (some ⟨tb, tf, none⟩) dn tc) rfl rfl (by kernel_rfl) (by kernel_rfl) (by kernel_rfl) (by first | exact (fun _ _ _ h => h) | exact (fun _ _ _ h => absurd h.1 (by simp))) (by kernel_rfl) (by rfl) (by rintro w' ⟨q1, q2⟩; go_simp) hS ?_; go_frame
                refine AnyT.takeD (i := 32) (v := .int .i64 t) rfl rfl (by kernel_rfl) (by kernel_rfl) (by kernel_rfl) (by first | exact (fun _ _ _ h => h) | exact (fun _ _ _ h => absurd h.1 (by simp))) (by kernel_rfl) (by rfl) (by rintro w' ⟨q1, q2⟩; go_simp) hS ?_; go_frame
                refine AnyT.takeD (i := 33) (v := .int .i64 q) rfl rfl (by kernel_rfl) (by kernel_rfl) (by kernel_rfl) (by first | exact (fun _ _ _ h => h) | exact (fun _ _ _ h => absurd h.1 (by simp))) (by kernel_rfl) (by rfl) (by rintro w' ⟨q1, q2⟩; go_simp) hS ?_; go_frame
                refine AnyT.takeD (i := 34) (v := .pointer (some ⟨tb, tf + q, none⟩)) rfl rfl (by kernel_rfl) (by kernel_rfl) (by kernel_rfl) (by first | exact (fun _ _ _ h => h) | exact (fun _ _ _ h => absurd h.1 (by simp))) (by kernel_rfl) (by rfl) (by rintro w' ⟨q1, q2⟩; go_simp) hS ?_; go_frame
                refine AnyT.takeD (i := 35) (v := .bool true) rfl rfl (by kernel_rfl) (by kernel_rfl) (by kernel_rfl) (by first | exact (fun _ _ _ h => h) | exact (fun _ _ _ h => absurd h.1 (by simp))) (by kernel_rfl) (by rfl) (by rintro w' ⟨q1, q2⟩; go_simp) hS ?_; go_frame
                refine AnyT.takeD (i := 36) (v := .bool false) rfl rfl (by kernel_rfl) (by kernel_rfl) (by kernel_rfl) (by first | exact (fun _ _ _ h => h) | exact (fun _ _ _ h => absurd h.1 (by simp))) (by kernel_rfl) (by rfl) (by rintro w' ⟨q1, q2⟩; go_simp) hS ?_; go_frame
                refine AnyT.takeD (i := 37) (v := .bool false) rfl rfl (by kernel_rfl) (by kernel_rfl) (by kernel_rfl) (by first | exact (fun _ _ _ h => h) | exact (fun _ _ _ h => absurd h.1 (by simp))) (by kernel_rfl) (by rfl) (by rintro w' ⟨q1, q2⟩; go_simp) hS ?_; go_frame
                refine AnyT.takeD (i := 38) (v := .bool false) rfl rfl (by kernel_rfl) (by kernel_rfl) (by kernel_rfl) (by first | exact (fun _ _ _ h => h) | exact (fun _ _ _ h => absurd h.1 (by simp))) (by kernel_rfl) (by rfl) (by rintro w' ⟨q1, q2⟩; go_simp) hS ?_; go_frame
                refine AnyT.takeD (i := 39) (v := .bool false) rfl rfl (by kernel_rfl) (by kernel_rfl) (by kernel_rfl) (by first | exact (fun _ _ _ h => h) | exact (fun _ _ _ h => absurd h.1 (by simp))) (by kernel_rfl) (by rfl) (by rintro w' ⟨q1, q2⟩; go_simp) hS ?_; go_frame
                refine ⟨by kernel_rfl, ?_⟩
                go_wp2
                exact ⟨⟨t + 1, by omega, by go_num, chain HBK.out hbd⟩, by simp [intOf]; omega⟩
              · obtain ⟨y0, y1, _, _, _⟩ := box2_facts (hz0 (.cells #[.bool true, .slice xa 0 xc] 47))
                go_wp2
                refine plain_region (fun j w' => decide (j < 40) = true → w'.cell? ⟨tb, tf + t, none⟩ = some (.bool true) ∧ w'.cell? ⟨tb, tf + q, none⟩ = some (.bool true)) (by kernel_rfl) ?_
                have hS : (wr.alloc (.cells #[.bool true, .slice xa 0 xc] 47)).drew.cell? ⟨tb, tf + t, none⟩ = some (.bool true) ∧ (wr.alloc (.cells #[.bool true, .slice xa 0 xc] 47)).drew.cell? ⟨tb, tf + q, none⟩ = some (.bool true) := HW.out (.cells #[.bool true, .slice xa 0 xc] 47)
                have hbd := (HBA.out (.cells #[.bool true, .slice xa 0 xc] 47)).drew
                generalize (wr.alloc (.cells #[.bool true, .slice xa 0 xc] 47)).drew = wd at hS hbd ⊢
                refine AnyT.takeD (i := 0) (v := .bool false) rfl rfl (by kernel_rfl) (by kernel_rfl) (by kernel_rfl) (by first | exact (fun _ _ _ h => h) | exact (fun _ _ _ h => absurd h.1 (by simp))) (by kernel_rfl) (by rfl) (by rintro w' ⟨q1, q2⟩; go_simp) hS ?_; go_frame
                refine AnyT.takeD (i := 1) (v := .bool false) rfl rfl (by kernel_rfl) (by kernel_rfl) (by kernel_rfl) (by first | exact (fun _ _ _ h => h) | exact (fun _ _ _ h => absurd h.1 (by simp))) (by kernel_rfl) (by rfl) (by rintro w' ⟨q1, q2⟩; go_simp) hS ?_; go_frame
                refine AnyT.takeDN (i := 2) rfl rfl (by kernel_rfl) (by kernel_rfl) (by kernel_rfl) (by first | exact (fun _ _ _ h => h) | exact (fun _ _ _ h => absurd h.1 (by simp))) (by kernel_rfl) (by rfl) hS ?_; go_frame
                refine AnyT.takeDN (i := 3) rfl rfl (by kernel_rfl) (by kernel_rfl) (by kernel_rfl) (by first | exact (fun _ _ _ h => h) | exact (fun _ _ _ h => absurd h.1 (by simp))) (by kernel_rfl) (by rfl) hS ?_; go_frame
                refine AnyT.takeDN (i := 4) rfl rfl (by kernel_rfl) (by kernel_rfl) (by kernel_rfl) (by first | exact (fun _ _ _ h => h) | exact (fun _ _ _ h => absurd h.1 (by simp))) (by kernel_rfl) (by rfl) hS ?_; go_frame
                refine AnyT.takeDN (i := 5) rfl rfl (by kernel_rfl) (by kernel_rfl) (by kernel_rfl) (by first | exact (fun _ _ _ h => h) | exact (fun _ _ _ h => absurd h.1 (by simp))) (by kernel_rfl) (by rfl) hS ?_; go_frame
                refine AnyT.takeDN (i := 6) rfl rfl (by kernel_rfl) (by kernel_rfl) (by kernel_rfl) (by first | exact (fun _ _ _ h => h) | exact (fun _ _ _ h => absurd h.1 (by simp))) (by kernel_rfl) (by rfl) hS ?_; go_frame
                refine AnyT.takeDN (i := 7) rfl rfl (by kernel_rfl) (by kernel_rfl) (by kernel_rfl) (by first | exact (fun _ _ _ h => h) | exact (fun _ _ _ h => absurd h.1 (by simp))) (by kernel_rfl) (by rfl) hS ?_; go_frame
                refine AnyT.takeDN (i := 8) rfl rfl (by kernel_rfl) (by kernel_rfl) (by kernel_rfl) (by first | exact (fun _ _ _ h => h) | exact (fun _ _ _ h => absurd h.1 (by simp))) (by kernel_rfl) (by rfl) hS ?_; go_frame
                refine AnyT.takeDN (i := 9) rfl rfl (by kernel_rfl) (by kernel_rfl) (by kernel_rfl) (by first | exact (fun _ _ _ h => h) | exact (fun _ _ _ h => absurd h.1 (by simp))) (by kernel_rfl) (by rfl) hS ?_; go_frame
                refine AnyT.takeDN (i := 10) rfl rfl (by kernel_rfl) (by kernel_rfl) (by kernel_rfl) (by first | exact (fun _ _ _ h => h) | exact (fun _ _ _ h => absurd h.1 (by simp))) (by kernel_rfl) (by rfl) hS ?_; go_frame
                refine AnyT.takeDN (i := 11) rfl rfl (by kernel_rfl) (by kernel_rfl) (by kernel_rfl) (by first | exact (fun _ _ _ h => h) | exact (fun _ _ _ h => absurd h.1 (by simp))) (by kernel_rfl) (by rfl) hS ?_; go_frame
                refine AnyT.takeDN (i := 12) rfl rfl (by kernel_rfl) (by kernel_rfl) (by kernel_rfl) (by first | exact (fun _ _ _ h => h) | exact (fun _ _ _ h => absurd h.1 (by simp))) (by kernel_rfl) (by rfl) hS ?_; go_frame
                refine AnyT.takeDN (i := 13) rfl rfl (by kernel_rfl) (by kernel_rfl) (by kernel_rfl) (by first | exact (fun _ _ _ h => h) | exact (fun _ _ _ h => absurd h.1 (by simp))) (by kernel_rfl) (by rfl) hS ?_; go_frame
                refine AnyT.takeDN (i := 14) rfl rfl (by kernel_rfl) (by kernel_rfl) (by kernel_rfl) (by first | exact (fun _ _ _ h => h) | exact (fun _ _ _ h => absurd h.1 (by simp))) (by kernel_rfl) (by rfl) hS ?_; go_frame
                refine AnyT.takeDN (i := 15) rfl rfl (by kernel_rfl) (by kernel_rfl) (by kernel_rfl) (by first | exact (fun _ _ _ h => h) | exact (fun _ _ _ h => absurd h.1 (by simp))) (by kernel_rfl) (by rfl) hS ?_; go_frame
                refine AnyT.takeDN (i := 16) rfl rfl (by kernel_rfl) (by kernel_rfl) (by kernel_rfl) (by first | exact (fun _ _ _ h => h) | exact (fun _ _ _ h => absurd h.1 (by simp))) (by kernel_rfl) (by rfl) hS ?_; go_frame
                refine AnyT.takeD (i := 17) (v := .bool false) rfl rfl (by kernel_rfl) (by kernel_rfl) (by kernel_rfl) (by first | exact (fun _ _ _ h => h) | exact (fun _ _ _ h => absurd h.1 (by simp))) (by kernel_rfl) (by rfl) (by rintro w' ⟨q1, q2⟩; go_simp) hS ?_; go_frame
                refine AnyT.takeD (i := 18) (v := .bool false) rfl rfl (by kernel_rfl) (by kernel_rfl) (by kernel_rfl) (by first | exact (fun _ _ _ h => h) | exact (fun _ _ _ h => absurd h.1 (by simp))) (by kernel_rfl) (by rfl) (by rintro w' ⟨q1, q2⟩; go_simp) hS ?_; go_frame
                refine AnyT.takeD (i := 19) (v := .bool false) rfl rfl (by kernel_rfl) (by kernel_rfl) (by kernel_rfl) (by first | exact (fun _ _ _ h => h) | exact (fun _ _ _ h => absurd h.1 (by simp))) (by kernel_rfl) (by rfl) (by rintro w' ⟨q1, q2⟩; go_simp) hS ?_; go_frame
                refine AnyT.takeD (i := 20) (v := .bool true) rfl rfl (by kernel_rfl) (by kernel_rfl) (by kernel_rfl) (by first | exact (fun _ _ _ h => h) | exact (fun _ _ _ h => absurd h.1 (by simp))) (by kernel_rfl) (by rfl) (by rintro w' ⟨q1, q2⟩; go_simp) hS ?_; go_frame
                refine AnyT.takeD (i := 21) (v := .bool true) rfl rfl (by kernel_rfl) (by kernel_rfl) (by kernel_rfl) (by first | exact (fun _ _ _ h => h) | exact (fun _ _ _ h => absurd h.1 (by simp))) (by kernel_rfl) (by rfl) (by rintro w' ⟨q1, q2⟩; go_simp) hS ?_; go_frame
                refine AnyT.takeD (i := 22) (v := .slice (some ⟨tb, tf, none⟩) dn tc) rfl rfl (by kernel_rfl) (by kernel_rfl) (by kernel_rfl) (by first | exact (fun _ _ _ h => h) | exact (fun _ _ _ h => absurd h.1 (by simp))) (by kernel_rfl) (by rfl) (by rintro w' ⟨q1, q2⟩; go_simp) hS ?_; go_frame
                refine AnyT.takeD (i := 23) (v := .int .i64 t) rfl rfl (by kernel_rfl) (by kernel_rfl) (by kernel_rfl) (by first | exact (fun _ _ _ h => h) | exact (fun _ _ _ h => absurd h.1 (by simp))) (by kernel_rfl) (by rfl) (by rintro w' ⟨q1, q2⟩; go_simp) hS ?_; go_frame
                refine AnyT.takeD (i := 24) (v := .pointer (some ⟨tb, tf + t, none⟩)) rfl rfl (by kernel_rfl) (by kernel_rfl) (by kernel_rfl) (by first | exact (fun _ _ _ h => h) | exact (fun _ _ _ h => absurd h.1 (by simp))) (by kernel_rfl) (by rfl) (by rintro w' ⟨q1, q2⟩; go_simp) hS ?_; go_frame
                refine AnyT.takeD (i := 25) (v := .bool true) rfl rfl (by kernel_rfl) (by kernel_rfl) (by kernel_rfl) (by first | exact (fun _ _ _ h => h) | exact (fun _ _ _ h => absurd h.1 (by simp))) (by kernel_rfl) (by rfl) (by rintro w' ⟨q1, q2⟩; go_simp) hS ?_; go_frame
                refine AnyT.takeD (i := 26) (v := .bool true) rfl rfl (by kernel_rfl) (by kernel_rfl) (by kernel_rfl) (by first | exact (fun _ _ _ h => h) | exact (fun _ _ _ h => absurd h.1 (by simp))) (by kernel_rfl) (by rfl) (by rintro w' ⟨q1, q2⟩; go_simp) hS ?_; go_frame
                refine AnyT.takeD (i := 27) (v := .bool true) rfl rfl (by kernel_rfl) (by kernel_rfl) (by kernel_rfl) (by first | exact (fun _ _ _ h => h) | exact (fun _ _ _ h => absurd h.1 (by simp))) (by kernel_rfl) (by rfl) (by rintro w' ⟨q1, q2⟩; go_simp) hS ?_; go_frame
                refine AnyT.takeD (i := 28) (v := .int .i64 t) rfl rfl (by kernel_rfl) (by kernel_rfl) (by kernel_rfl) (by first | exact (fun _ _ _ h => h) | exact (fun _ _ _ h => absurd h.1 (by simp))) (by kernel_rfl) (by rfl) (by rintro w' ⟨q1, q2⟩; go_simp) hS ?_; go_frame
                refine AnyT.takeD (i := 29) (v := .bool false) rfl rfl (by kernel_rfl) (by kernel_rfl) (by kernel_rfl) (by first | exact (fun _ _ _ h => h) | exact (fun _ _ _ h => absurd h.1 (by simp))) (by kernel_rfl) (by rfl) (by rintro w' ⟨q1, q2⟩; go_simp) hS ?_; go_frame
                refine AnyT.takeD (i := 30) (v := .bool false) rfl rfl (by kernel_rfl) (by kernel_rfl) (by kernel_rfl) (by first | exact (fun _ _ _ h => h) | exact (fun _ _ _ h => absurd h.1 (by simp))) (by kernel_rfl) (by rfl) (by rintro w' ⟨q1, q2⟩; go_simp) hS ?_; go_frame
                refine AnyT.takeD (i := 31) (v := .slice (some ⟨tb, tf, none⟩) dn tc) rfl rfl (by kernel_rfl) (by kernel_rfl) (by kernel_rfl) (by first | exact (fun _ _ _ h => h) | exact (fun _ _ _ h => absurd h.1 (by simp))) (by kernel_rfl) (by rfl) (by rintro w' ⟨q1, q2⟩; go_simp) hS ?_; go_frame
                refine AnyT.takeD (i := 32) (v := .int .i64 t) rfl rfl (by kernel_rfl) (by kernel_rfl) (by kernel_rfl) (by first | exact (fun _ _ _ h => h) | exact (fun _ _ _ h => absurd h.1 (by simp))) (by kernel_rfl) (by rfl) (by rintro w' ⟨q1, q2⟩; go_simp) hS ?_; go_frame
                refine AnyT.takeD (i := 33) (v := .int .i64 q) rfl rfl (by kernel_rfl) (by kernel_rfl) (by kernel_rfl) (by first | exact (fun _ _ _ h => h) | exact (fun _ _ _ h => absurd h.1 (by simp))) (by kernel_rfl) (by rfl) (by rintro w' ⟨q1, q2⟩; go_simp) hS ?_; go_frame
                refine AnyT.takeD (i := 34) (v := .pointer (some ⟨tb, tf + q, none⟩)) rfl rfl (by kernel_rfl) (by kernel_rfl) (by kernel_rfl) (by first | exact (fun _ _ _ h => h) | exact (fun _ _ _ h => absurd h.1 (by simp))) (by kernel_rfl) (by rfl) (by rintro w' ⟨q1, q2⟩; go_simp) hS ?_; go_frame
                refine AnyT.takeD (i := 35) (v := .bool true) rfl rfl (by kernel_rfl) (by kernel_rfl) (by kernel_rfl) (by first | exact (fun _ _ _ h => h) | exact (fun _ _ _ h => absurd h.1 (by simp))) (by kernel_rfl) (by rfl) (by rintro w' ⟨q1, q2⟩; go_simp) hS ?_; go_frame
                refine AnyT.takeD (i := 36) (v := .bool false) rfl rfl (by kernel_rfl) (by kernel_rfl) (by kernel_rfl) (by first | exact (fun _ _ _ h => h) | exact (fun _ _ _ h => absurd h.1 (by simp))) (by kernel_rfl) (by rfl) (by rintro w' ⟨q1, q2⟩; go_simp) hS ?_; go_frame
                refine AnyT.takeD (i := 37) (v := .bool false) rfl rfl (by kernel_rfl) (by kernel_rfl) (by kernel_rfl) (by first | exact (fun _ _ _ h => h) | exact (fun _ _ _ h => absurd h.1 (by simp))) (by kernel_rfl) (by rfl) (by rintro w' ⟨q1, q2⟩; go_simp) hS ?_; go_frame
                refine AnyT.takeD (i := 38) (v := .bool false) rfl rfl (by kernel_rfl) (by kernel_rfl) (by kernel_rfl) (by first | exact (fun _ _ _ h => h) | exact (fun _ _ _ h => absurd h.1 (by simp))) (by kernel_rfl) (by rfl) (by rintro w' ⟨q1, q2⟩; go_simp) hS ?_; go_frame
                refine AnyT.takeD (i := 39) (v := .bool false) rfl rfl (by kernel_rfl) (by kernel_rfl) (by kernel_rfl) (by first | exact (fun _ _ _ h => h) | exact (fun _ _ _ h => absurd h.1 (by simp))) (by kernel_rfl) (by rfl) (by rintro w' ⟨q1, q2⟩; go_simp) hS ?_; go_frame
                refine ⟨by kernel_rfl, ?_⟩
                go_wp2
                exact ⟨⟨t + 1, by omega, by go_num, chain HBK.out hbd⟩, by simp [intOf]; omega⟩
          · have hkd := hkk hkb
            rw [hkd] at hct hrn hri
            unfold keyB at hkb
            simp only [Bool.and_eq_true, decide_eq_true_eq] at hkb
            obtain ⟨rfl, hx0⟩ := hkb
            obtain rfl : rn = xn := by rw [← hrn, ← hxn]; rfl
            have hgx : (0 : Int) < (rn : Int) := by omega
            have hgn : 0 < rn := by omega
            have htdn : t < dn := by omega
            have HRI := hid hri
            have HTB := hid htb
            have HPB := hid hpb
            have HXM := hid hxm
            have HXI := hid hxi
            have HXN := hid hxn
            have hz0 : ∀ o : Obj, (wr.alloc o).heap[wr.heap.size]? = some o := fun o => World.alloc_heap_new _ _
            have HW := hid (fun (o : Obj) => And.intro (((hba o).cell (p := ⟨tb, tf + t, none⟩) htb).trans hct) (((hba o).cell (p := ⟨pb, po + t, none⟩) hpb).trans hcp))
            have HBA := hid hba
            have HBK := hid hbk
            clear hkk hko hkd hl hpo hrn hri hcp hct hxi hxn hba hbk hdl hx0 hdn1
            obtain ⟨y0, y1, _, _, ylt⟩ := box2_facts (hz0 (.cells #[.bool true, .slice xa rn xc] 47))
            have Y1 := hid y1
            go_wp2
            refine plain_region (fun j w' => decide (j < 40) = true → w'.cell? ⟨tb, tf + t, none⟩ = some (.bool true) ∧ w'.cell? ⟨pb, po + t, none⟩ = some (.slice ra rn rc) ∧ w'.cell? ⟨wr.heap.size, 1, none⟩ = some (.slice xa rn xc)) (by kernel_rfl) ?_
            have hS : (wr.alloc (.cells #[.bool true, .slice xa rn xc] 47)).drew.cell? ⟨tb, tf + t, none⟩ = some (.bool true) ∧ (wr.alloc (.cells #[.bool true, .slice xa rn xc] 47)).drew.cell? ⟨pb, po + t, none⟩ = some (.slice ra rn rc) ∧ (wr.alloc (.cells #[.bool true, .slice xa rn xc] 47)).drew.cell? ⟨wr.heap.size, 1, none⟩ = some (.slice xa rn xc) := ⟨(HW.out _).1, (HW.out _).2, Y1.out⟩
            have hbd := (HBA.out (.cells #[.bool true, .slice xa rn xc] 47)).drew
            have hsz : wr.heap.size < (wr.alloc (.cells #[.bool true, .slice xa rn xc] 47)).drew.heap.size := ylt
            generalize (wr.alloc (.cells #[.bool true, .slice xa rn xc] 47)).drew = wd at hS hbd hsz ⊢
            have HSX := hid (show ∀ X : World, Below wd.heap.size wd X → X.cell? ⟨tb, tf + t, none⟩ = some (.bool true) ∧ X.cell? ⟨pb, po + t, none⟩ = some (.slice ra rn rc) ∧ X.cell? ⟨wr.heap.size, 1, none⟩ = some (.slice xa rn xc) from fun X hX => ⟨(hX.cell (p := ⟨tb, tf + t, none⟩) (Nat.lt_of_lt_of_le HTB.out hbd.size)).trans hS.1, (hX.cell (p := ⟨pb, po + t, none⟩) (Nat.lt_of_lt_of_le HPB.out hbd.size)).trans hS.2.1, (hX.cell (p := ⟨wr.heap.size, 1, none⟩) hsz).trans hS.2.2⟩)
            have HSA := hid (s8Ints_t wd ra xa rn rc xc l HXN.out HXM.out (HRI.out.below hbd) (HXI.out.below hbd))
            have HBD := hid hbd
            clear hbd hsz y0 y1 hz0
            refine AnyT.takeD (i := 0) (v := .bool true) rfl rfl (by kernel_rfl) (by kernel_rfl) (by kernel_rfl) (by first | exact (fun _ _ _ h => h) | exact (fun _ _ _ h => absurd h.1 (by simp))) (by kernel_rfl) (by rfl) (by rintro w' ⟨q1, q2, q3⟩; go_simp) hS ?_; go_frame
            refine AnyT.takeD (i := 1) (v := .bool true) rfl rfl (by kernel_rfl) (by kernel_rfl) (by kernel_rfl) (by first | exact (fun _ _ _ h => h) | exact (fun _ _ _ h => absurd h.1 (by simp))) (by kernel_rfl) (by rfl) (by rintro w' ⟨q1, q2, q3⟩; go_simp) hS ?_; go_frame
            refine AnyT.takeD (i := 2) (v := .slice (some ⟨tb, tf, none⟩) dn tc) rfl rfl (by kernel_rfl) (by kernel_rfl) (by kernel_rfl) (by first | exact (fun _ _ _ h => h) | exact (fun _ _ _ h => absurd h.1 (by simp))) (by kernel_rfl) (by rfl) (by rintro w' ⟨q1, q2, q3⟩; go_simp) hS ?_; go_frame
            refine AnyT.takeD (i := 3) (v := .int .i64 t) rfl rfl (by kernel_rfl) (by kernel_rfl) (by kernel_rfl) (by first | exact (fun _ _ _ h => h) | exact (fun _ _ _ h => absurd h.1 (by simp))) (by kernel_rfl) (by rfl) (by rintro w' ⟨q1, q2, q3⟩; go_simp) hS ?_; go_frame
            refine AnyT.takeD (i := 4) (v := .pointer (some ⟨tb, tf + t, none⟩)) rfl rfl (by kernel_rfl) (by kernel_rfl) (by kernel_rfl) (by first | exact (fun _ _ _ h => h) | exact (fun _ _ _ h => absurd h.1 (by simp))) (by kernel_rfl) (by rfl) (by rintro w' ⟨q1, q2, q3⟩; go_simp) hS ?_; go_frame
            refine AnyT.takeD (i := 5) (v := .bool true) rfl rfl (by kernel_rfl) (by kernel_rfl) (by kernel_rfl) (by first | exact (fun _ _ _ h => h) | exact (fun _ _ _ h => absurd h.1 (by simp))) (by kernel_rfl) (by rfl) (by rintro w' ⟨q1, q2, q3⟩; go_simp) hS ?_; go_frame
            refine AnyT.takeD (i := 6) (v := .bool false) rfl rfl (by kernel_rfl) (by kernel_rfl) (by kernel_rfl) (by first | exact (fun _ _ _ h => h) | exact (fun _ _ _ h => absurd h.1 (by simp))) (by kernel_rfl) (by rfl) (by rintro w' ⟨q1, q2, q3⟩; go_simp) hS ?_; go_frame
            refine AnyT.takeD (i := 7) (v := .bool false) rfl rfl (by kernel_rfl) (by kernel_rfl) (by kernel_rfl) (by first | exact (fun _ _ _ h => h) | exact (fun _ _ _ h => absurd h.1 (by simp))) (by kernel_rfl) (by rfl) (by rintro w' ⟨q1, q2, q3⟩; go_simp) hS ?_; go_frame
            refine AnyT.takeD (i := 8) (v := .slice (some ⟨pb, po, none⟩) dn pc) rfl rfl (by kernel_rfl) (by kernel_rfl) (by kernel_rfl) (by first | exact (fun _ _ _ h => h) | exact (fun _ _ _ h => absurd h.1 (by simp))) (by kernel_rfl) (by rfl) (by rintro w' ⟨q1, q2, q3⟩; go_simp) hS ?_; go_frame
            refine AnyT.takeD (i := 9) (v := .int .i64 t) rfl rfl (by kernel_rfl) (by kernel_rfl) (by kernel_rfl) (by first | exact (fun _ _ _ h => h) | exact (fun _ _ _ h => absurd h.1 (by simp))) (by kernel_rfl) (by rfl) (by rintro w' ⟨q1, q2, q3⟩; go_simp) hS ?_; go_frame
            refine AnyT.takeD (i := 10) (v := .pointer (some ⟨pb, po + t, none⟩)) rfl rfl (by kernel_rfl) (by kernel_rfl) (by kernel_rfl) (by first | exact (fun _ _ _ h => h) | exact (fun _ _ _ h => absurd h.1 (by simp))) (by kernel_rfl) (by rfl) (by rintro w' ⟨q1, q2, q3⟩; go_simp) hS ?_; go_frame
            refine AnyT.takeD (i := 11) (v := .slice ra rn rc) rfl rfl (by kernel_rfl) (by kernel_rfl) (by kernel_rfl) (by first | exact (fun _ _ _ h => h) | exact (fun _ _ _ h => absurd h.1 (by simp))) (by kernel_rfl) (by rfl) (by rintro w' ⟨q1, q2, q3⟩; go_simp) hS ?_; go_frame
            refine AnyT.takeD (i := 12) (v := .pointer (some ⟨wr.heap.size, 1, none⟩)) rfl rfl (by kernel_rfl) (by kernel_rfl) (by kernel_rfl) (by first | exact (fun _ _ _ h => h) | exact (fun _ _ _ h => absurd h.1 (by simp))) (by kernel_rfl) (by rfl) (by rintro w' ⟨q1, q2, q3⟩; go_simp) hS ?_; go_frame
            refine AnyT.takeD (i := 13) (v := .slice xa rn xc) rfl rfl (by kernel_rfl) (by kernel_rfl) (by kernel_rfl) (by first | exact (fun _ _ _ h => h) | exact (fun _ _ _ h => absurd h.1 (by simp))) (by kernel_rfl) (by rfl) (by rintro w' ⟨q1, q2, q3⟩; go_simp) hS ?_; go_frame
            refine AnyT.next (i := 14) (by kernel_rfl) rfl (wpOp_of_list rfl ?_)
            go_wp2_with (go_at_call 22; refine HSA.out.mono ?_; rintro e w9 ⟨rfl, hb9⟩; refine Stop.of ?_)
            refine Stop.go ?_
            have hS9 := HSX.out _ hb9
            go_wp2
            refine ⟨fun _ => hS9, ?_⟩
            refine AnyT.takeD (i := 15) (v := .bool false) rfl rfl (by kernel_rfl) (by kernel_rfl) (by kernel_rfl) (by first | exact (fun _ _ _ h => h) | exact (fun _ _ _ h => absurd h.1 (by simp))) (by kernel_rfl) (by rfl) (by rintro w' ⟨q1, q2, q3⟩; go_simp) hS9 ?_; go_frame
            refine AnyT.takeD (i := 16) (v := .bool false) rfl rfl (by kernel_rfl) (by kernel_rfl) (by kernel_rfl) (by first | exact (fun _ _ _ h => h) | exact (fun _ _ _ h => absurd h.1 (by simp))) (by kernel_rfl) (by rfl) (by rintro w' ⟨q1, q2, q3⟩; go_simp) hS9 ?_; go_frame
            refine AnyT.takeD (i := 17) (v := .bool false) rfl rfl (by kernel_rfl) (by kernel_rfl) (by kernel_rfl) (by first | exact (fun _ _ _ h => h) | exact (fun _ _ _ h => absurd h.1 (by simp))) (by kernel_rfl) (by rfl) (by rintro w' ⟨q1, q2, q3⟩; go_simp) hS9 ?_; go_frame
            refine AnyT.takeD (i := 18) (v := .bool false) rfl rfl (by kernel_rfl) (by kernel_rfl) (by kernel_rfl) (by first | exact (fun _ _ _ h => h) | exact (fun _ _ _ h => absurd h.1 (by simp))) (by kernel_rfl) (by rfl) (by rintro w' ⟨q1, q2, q3⟩; go_simp) hS9 ?_; go_frame
            refine AnyT.takeD (i := 19) (v := .bool true) rfl rfl (by kernel_rfl) (by kernel_rfl) (by kernel_rfl) (by first | exact (fun _ _ _ h => h) | exact (fun _ _ _ h => absurd h.1 (by simp))) (by kernel_rfl) (by rfl) (by rintro w' ⟨q1, q2, q3⟩; go_simp) hS9 ?_; go_frame
            refine AnyT.takeD (i := 20) (v := .bool false) rfl rfl (by kernel_rfl) (by kernel_rfl) (by kernel_rfl) (by first | exact (fun _ _ _ h => h) | exact (fun _ _ _ h => absurd h.1 (by simp))) (by kernel_rfl) (by rfl) (by rintro w' ⟨q1, q2, q3⟩; go_simp) hS9 ?_; go_frame
            refine AnyT.takeD (i := 21) (v := .bool false) rfl rfl (by kernel_rfl) (by kernel_rfl) (by kernel_rfl) (by first | exact (fun _ _ _ h => h) | exact (fun _ _ _ h => absurd h.1 (by simp))) (by kernel_rfl) (by rfl) (by rintro w' ⟨q1, q2, q3⟩; go_simp) hS9 ?_; go_frame
            refine AnyT.takeDN (i := 22) rfl rfl (by kernel_rfl) (by kernel_rfl) (by kernel_rfl) (by first | exact (fun _ _ _ h => h) | exact (fun _ _ _ h => absurd h.1 (by simp))) (by kernel_rfl) (by rfl) hS9 ?_; go_frame
            refine AnyT.takeDN (i := 23) rfl rfl (by kernel_rfl) (by kernel_rfl) (by kernel_rfl) (by first | exact (fun _ _ _ h => h) | exact (fun _ _ _ h => absurd h.1 (by simp))) (by kernel_rfl) (by rfl) hS9 ?_; go_frame
            refine AnyT.takeDN (i := 24) rfl rfl (by kernel_rfl) (by kernel_rfl) (by kernel_rfl) (by first | exact (fun _ _ _ h => h) | exact (fun _ _ _ h => absurd h.1 (by simp))) (by kernel_rfl) (by rfl) hS9 ?_; go_frame
            refine AnyT.takeDN (i := 25) rfl rfl (by kernel_rfl) (by kernel_rfl) (by kernel_rfl) (by first | exact (fun _ _ _ h => h) | exact (fun _ _ _ h => absurd h.1 (by simp))) (by kernel_rfl) (by rfl) hS9 ?_; go_frame
            refine AnyT.takeD (i := 26) (v := .bool false) rfl rfl (by kernel_rfl) (by kernel_rfl) (by kernel_rfl) (by first | exact (fun _ _ _ h => h) | exact (fun _ _ _ h => absurd h.1 (by simp))) (by kernel_rfl) (by rfl) (by rintro w' ⟨q1, q2, q3⟩; go_simp) hS9 ?_; go_frame
            refine AnyT.takeD (i := 27) (v := .bool false) rfl rfl (by kernel_rfl) (by kernel_rfl) (by kernel_rfl) (by first | exact (fun _ _ _ h => h) | exact (fun _ _ _ h => absurd h.1 (by simp))) (by kernel_rfl) (by rfl) (by rintro w' ⟨q1, q2, q3⟩; go_simp) hS9 ?_; go_frame
            refine AnyT.takeDN (i := 28) rfl rfl (by kernel_rfl) (by kernel_rfl) (by kernel_rfl) (by first | exact (fun _ _ _ h => h) | exact (fun _ _ _ h => absurd h.1 (by simp))) (by kernel_rfl) (by rfl) hS9 ?_; go_frame
            refine AnyT.takeDN (i := 29) rfl rfl (by kernel_rfl) (by kernel_rfl) (by kernel_rfl) (by first | exact (fun _ _ _ h => h) | exact (fun _ _ _ h => absurd h.1 (by simp))) (by kernel_rfl) (by rfl) hS9 ?_; go_frame
            refine AnyT.takeDN (i := 30) rfl rfl (by kernel_rfl) (by kernel_rfl) (by kernel_rfl) (by first | exact (fun _ _ _ h => h) | exact (fun _ _ _ h => absurd h.1 (by simp))) (by kernel_rfl) (by rfl) hS9 ?_; go_frame
            refine AnyT.takeDN (i := 31) rfl rfl (by kernel_rfl) (by kernel_rfl) (by kernel_rfl) (by first | exact (fun _ _ _ h => h) | exact (fun _ _ _ h => absurd h.1 (by simp))) (by kernel_rfl) (by rfl) hS9 ?_; go_frame
            refine AnyT.takeDN (i := 32) rfl rfl (by kernel_rfl) (by kernel_rfl) (by kernel_rfl) (by first | exact (fun _ _ _ h => h) | exact (fun _ _ _ h => absurd h.1 (by simp))) (by kernel_rfl) (by rfl) hS9 ?_; go_frame
            refine AnyT.takeDN (i := 33) rfl rfl (by kernel_rfl) (by kernel_rfl) (by kernel_rfl) (by first | exact (fun _ _ _ h => h) | exact (fun _ _ _ h => absurd h.1 (by simp))) (by kernel_rfl) (by rfl) hS9 ?_; go_frame
            refine AnyT.takeDN (i := 34) rfl rfl (by kernel_rfl) (by kernel_rfl) (by kernel_rfl) (by first | exact (fun _ _ _ h => h) | exact (fun _ _ _ h => absurd h.1 (by simp))) (by kernel_rfl) (by rfl) hS9 ?_; go_frame
            refine AnyT.takeDN (i := 35) rfl rfl (by kernel_rfl) (by kernel_rfl) (by kernel_rfl) (by first | exact (fun _ _ _ h => h) | exact (fun _ _ _ h => absurd h.1 (by simp))) (by kernel_rfl) (by rfl) hS9 ?_; go_frame
            refine AnyT.takeDN (i := 36) rfl rfl (by kernel_rfl) (by kernel_rfl) (by kernel_rfl) (by first | exact (fun _ _ _ h => h) | exact (fun _ _ _ h => absurd h.1 (by simp))) (by kernel_rfl) (by rfl) hS9 ?_; go_frame
            refine AnyT.takeDN (i := 37) rfl rfl (by kernel_rfl) (by kernel_rfl) (by kernel_rfl) (by first | exact (fun _ _ _ h => h) | exact (fun _ _ _ h => absurd h.1 (by simp))) (by kernel_rfl) (by rfl) hS9 ?_; go_frame
            refine AnyT.takeD (i := 38) (v := .bool false) rfl rfl (by kernel_rfl) (by kernel_rfl) (by kernel_rfl) (by first | exact (fun _ _ _ h => h) | exact (fun _ _ _ h => absurd h.1 (by simp))) (by kernel_rfl) (by rfl) (by rintro w' ⟨q1, q2, q3⟩; go_simp) hS9 ?_; go_frame
            refine AnyT.takeD (i := 39) (v := .bool false) rfl rfl (by kernel_rfl) (by kernel_rfl) (by kernel_rfl) (by first | exact (fun _ _ _ h => h) | exact (fun _ _ _ h => absurd h.1 (by simp))) (by kernel_rfl) (by rfl) (by rintro w' ⟨q1, q2, q3⟩; go_simp) hS9 ?_; go_frame
            refine ⟨by kernel_rfl, ?_⟩
            have HB9 := hid hb9
            clear hb9 hS hS9
            go_wp2
            exact ⟨⟨t + 1, by omega, by go_num, chain (chain HBK.out HBD.out) HB9.out⟩, by simp [intOf]; omega⟩
        · go_wp2_with first
            | (go_at_call 8; refine (awake8_c _).mono ?_; rintro e w12 ⟨rfl, hb12⟩)
          go_ret
          exact ⟨rfl, chain (chain HB8.out hbk) hb12⟩
end Go.Proofs.YtkmjeegnijohmaaGreat

namespace Go.Proofs.YtkmjeegnijohmaaGreat
open Go.ChangeShapes Go.WideShapes Go.ChangeAt Go.RowKit Go.Deep
set_option linter.unusedVariables false

section
variable {H : Type} {enc : TypeId × Value → H} {P : Program} {w : World} {base : Nat} {held : Bool}
theorem arg_frames {r : Reach} {b0 : Nat} {t c q : TypeId} {f0 f1 : Field} {v : Value} {d : DataW H} {p : List MemPlace} (ht : P.underlying t = some (.slice c)) (hs : P.underlying c = some (.struct #[f0, f1])) (hone : oneCellFields P #[f0, f1] = true) (hC : P.cellsOf c = 2)
    (he0 : P.underlying f0.type = some .bool) (he1 : P.underlying f1.type = some (.slice q)) (hq : P.underlying q = some (.int .i64)) (cq : P.cellsOf q = 1)
    (hv : Value.okWide P w r b0 t v) (h : DataW.Trod enc P w base (fun _ => true) held t v d p) : ∃ a n cap, ∃ l : List Frm, v = .slice a n cap ∧ l.length = n ∧ n ≤ maxLen ∧ FramesAt w a l ∧ ∀ y ∈ l, ∀ z ∈ y.2, Fits64 z := by
  obtain ⟨a, n, cap, rfl⟩ := okWide_slice ht hv
  obtain ⟨fuel, hf⟩ := h
  rcases open_slice ht (by simpa [Value.cells] using hf) with ⟨hcs, _⟩ | ⟨x, len, c', m, nn, D, Pl, hcs, _, hl, hm, hmm, _, hx⟩
  · simp at hcs
    obtain ⟨rfl, rfl, rfl⟩ := hcs
    exact ⟨none, 0, 0, [], rfl, rfl, by decide, fun j hj => by simp at hj, fun y hy => by simp at hy⟩
  simp at hcs
  obtain ⟨rfl, rfl, rfl⟩ := hcs
  simp only [if_true] at hmm
  obtain ⟨o0, k0⟩ := hone_of hone 0 f0 rfl
  obtain ⟨o1, k1⟩ := hone_of hone 1 f1 rfl
  have hsl : ∀ {fuel : Nat} {e : TypeId} (he : P.underlying e = some (.slice q)) {v0 : Value} {x : DataW H × List MemPlace}, DataW.trod enc P w base (fun _ => true) held fuel e [v0] = some x → ∃ ra rn rc, v0 = .slice ra rn rc := by
    intro fuel e he v0 x k0
    rcases open_ints he hq cq k0 with ⟨hcs, _⟩ | ⟨x, l, c, zs, hcs, _⟩
    · simp at hcs; exact ⟨_, _, _, hcs⟩
    · simp at hcs; exact ⟨_, _, _, hcs⟩
  have each : ∀ i, i < n → ∃ y : Frm × (Option Addr × Nat × Nat), w.cell? (x.add (i * 2)) = some (.bool y.1.1) ∧ w.cell? ((x.add (i * 2)).add 1) = some (.slice y.2.1 y.2.2.1 y.2.2.2) ∧
      y.1.2.length = y.2.2.1 ∧ y.2.2.1 ≤ maxLen ∧ IntsAt w y.2.1 y.1.2 ∧ (∀ z ∈ y.1.2, Fits64 z) := by
    intro i hi
    obtain ⟨cs', hc, htr⟩ := hx i (by omega)
    rw [hC] at hc
    obtain ⟨_, hlen, hcell⟩ := World.cells?_some hc
    match cs', hlen with
    | [c0, c1], _ =>
      obtain ⟨y0, y1, n', _, _, t0, t1⟩ := trod_struct2 hs htr
      rw [o0, k0] at t0
      rw [o1, k1] at t1
      simp at t0 t1
      obtain ⟨kf, e0, _⟩ := DataW.trod_bool he0 t0
      simp at e0
      subst e0
      obtain ⟨ra, rn, rc, rfl⟩ := hsl he1 t1
      obtain ⟨l1, q1, q2, q3, q4⟩ := ints_opened he1 hq cq t1
      have hc0 := hcell 0 (by omega)
      rw [show (x.add (i * 2)).add 0 = x.add (i * 2) from rfl] at hc0
      exact ⟨((kf, l1), (ra, rn, rc)), by simpa using hc0, by simpa using hcell 1 (by omega), q1, q2, q3, q4⟩
  haveI : Inhabited (Frm × (Option Addr × Nat × Nat)) := ⟨((false, []), (none, 0, 0))⟩
  obtain ⟨y, hy⟩ := choose_lt each
  refine ⟨some x, n, cap, (List.range n).map fun i => (y i).1, rfl, by simp, by omega, fun j hj => ?_, fun z hz => ?_⟩
  · have hjn : j < n := by simpa using hj
    have hp := cell_plain (hy 0 (by omega)).1
    simp only [Addr.add, Nat.zero_mul, if_true] at hp
    obtain ⟨b, o, s⟩ := x
    have hs' : s = none := by have := hp.1; simp at this; exact this
    subst hs'
    obtain ⟨r0, r1, r3, r4, r5, r6⟩ := hy j hjn
    rw [add_plain] at r0 r1
    rw [add_plain] at r1
    refine ⟨b, o, (y j).2.1, (y j).2.2.1, (y j).2.2.2, rfl, hp.2, ?_, r1, ?_, r4, ?_⟩ <;> simp only [List.getElem_map, List.getElem_range] <;> assumption
  · obtain ⟨i, hi, rfl⟩ := List.mem_map.1 hz
    obtain ⟨r0, r1, r3, r4, r5, r6⟩ := hy i (List.mem_range.1 hi)
    exact r6
end
end Go.Proofs.YtkmjeegnijohmaaGreat

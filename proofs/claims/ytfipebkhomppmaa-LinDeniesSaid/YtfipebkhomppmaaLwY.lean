/- Walks of reference 03: Reduced. -/
import Derived.Test.YtfipebkhomppmaaLwX
import Derived.Deep.CutRange
namespace Go.Proofs.Ytfipebkhomppmaa
open Go.RowKit
set_option linter.unusedVariables false

theorem RowN.sp {N : Option Nat} {X : World} {g n c : Nat} {P : List Int} (h : RowN N X (.slice (some ⟨g, 0, none⟩) n c) P) (h0 : 0 < P.length) : SpRow X g P := by
  rcases h with ⟨g', c', e, hs, _⟩ | ⟨rfl, _⟩
  · cases e; exact hs
  · simp at h0
theorem RowN.form {N : Option Nat} {X : World} {v : Value} {P : List Int} (h : RowN N X v P) (h0 : 0 < P.length) : ∃ g c, v = .slice (some ⟨g, 0, none⟩) P.length c ∧ SpRow X g P := by
  rcases h with ⟨g', c', e, hs, _⟩ | ⟨rfl, _⟩
  · exact ⟨_, _, e, hs⟩
  · simp at h0
theorem posF_bnd {B : Nat} {l : List Int} (h : BndL B l) (j : Nat) : BndL B (posF l j) := by
  unfold posF
  split
  · intro x hx
    obtain ⟨y, hy, rfl⟩ := List.mem_map.1 hx
    have := h y hy
    omega
  · exact h
theorem RedS.drop {w : World} {R0 : Nat} {A : World} {l d r q p : Value} {left done rest : List (List Int)} {P : List Int} {J : List Nat} (h : RedS w R0 A l d r q p left done rest P J) : RedS w R0 A (.slice none 0 0) d r q p [] done rest P J :=
  ⟨TabN.nil _ _ _, h.hd, h.hr, h.hq, h.hp, h.hb, h.hR, h.hw, fun k hk => by simp [Value.ownBlock] at hk, h.dR, h.pR⟩

set_option maxRecDepth 100000 in
set_option maxHeartbeats 4000000 in
theorem r3reduced_c (w : World) (a : Option Addr) (n cap : Nat) (L : List (List Int)) (W : Nat) (hn : L.length = n) (hn6 : n ≤ 1000) (H : RowsAt w a L) (hw : ∀ r ∈ L, r.length = W) (hW : W ≤ 1000) (hB0 : ∀ r ∈ L, BndL 4611686018427387904 r)
    (hB : ∀ t, t ≤ W → ∀ r ∈ (rRed L t).done ++ (rRed L t).left, r.length = W ∧ BndL 1073741824 r) (hlen : ∀ t, (rRed L t).done.length + (rRed L t).left.length = n) (hpl : ∀ t, (rRed L t).piv.length = (rRed L t).done.length) :
    Calls Try.prog 87 #[.slice a n cap] w fun e w' => ∃ vD vP, e = .returned (.tuple #[vD, vP]) ∧ TabS w' w.heap.size vD (rRed L W).done ∧ w'.ownsRow w.heap.size 3 1 vP (rRed L W).piv.length ((castL (rRed L W).piv).map (Value.int .i64)) ∧ Below w.heap.size w w' := by
  have HN := hid hn
  have HH := hid H
  have HW := hid hw
  have HB0 := hid hB0
  have HBB := hid hB
  have HLEN := hid hlen
  have HPL := hid hpl
  clear hn H hw hB0 hB hlen hpl
  go_enter Try.func87, Try.ntmps87
  go_wp2
  go_loopw [4, 21] (fun v i wr => ∃ k : Nat, k ≤ n ∧ i = .int .i64 k ∧ TabN none wr w.heap.size v ((L.take k).map primF) ∧ Below w.heap.size w wr) (fun _ i _ => n - (intOf i).toNat)
  case atStart => exact ⟨0, Nat.zero_le _, rfl, TabN.nil _ _ _, Below.refl _ _⟩
  case round =>
    obtain ⟨k, hk, rfl, ho, hbk⟩ := hrel
    obtain ⟨wo, hwo⟩ : ∃ wo, wo = wr := ⟨_, rfl⟩
    subst hwo
    by_cases hlt : k < n
    · have hkL : k < L.length := by rw [HN.out]; exact hlt
      obtain ⟨b, off, ra, rn, rc, rfl, hbs, hq0, hrn, hrm, hri⟩ := (HH.out.below hbk) k hkL
      have htk : (L.take (k + 1)).map primF = (L.take k).map primF ++ [primF L[k]] := by rw [List.take_succ_eq_append_getElem hkL, List.map_append]; rfl
      obtain rfl : rn = W := by rw [← hrn]; exact HW.out _ (List.getElem_mem hkL)
      obtain ⟨C, hC⟩ : ∃ C, C = (L.take k).map primF := ⟨_, rfl⟩
      have hlenC : C.length = k := by rw [hC, List.length_map, List.length_take, HN.out]; omega
      rw [← hC] at htk ho
      have HPR := hid (r3primitive_c wo ra rn rc L[k] hrn hW hri (HB0.out _ (List.getElem_mem hkL)))
      obtain ⟨r, hr⟩ : ∃ r, r = L[k] := ⟨_, rfl⟩
      rw [← hr] at htk HPR hrn
      have hpl : (primF r).length = rn := by unfold primF; rw [List.length_map]; exact hrn
      obtain ⟨P, hP⟩ : ∃ P, P = primF r := ⟨_, rfl⟩
      rw [← hP] at HPR htk hpl
      have HTK := hid htk
      have HLC := hid hlenC
      have HPLN := hid hpl
      have HBK := hid hbk
      have HO := hid ho
      obtain ⟨va, vc, rfl⟩ : ∃ va vc, u4 = .slice va k vc := by
        obtain ⟨_, ho1, _⟩ := ho
        obtain ⟨a', c', e⟩ := ownsRow_slice ho1
        exact ⟨a', c', by rw [e, hlenC]⟩
      clear hC hr hP htk hlenC hpl ho hri hrn hkL hbk
      go_wp2_with (go_at_call 77; refine HPR.out.mono ?_; rintro e w4 ⟨v4, rfl, ho4, hb4⟩; refine Stop.of ?_)
      refine Stop.go ?_
      obtain ⟨la, lc, rfl⟩ := ownsRow_slice ho4
      have hb4a : Below wo.heap.size wo (w4.alloc (.cells #[.slice la rn lc] 31)) := hb4.alloc hb4.size _
      have hT := HO.out.below hb4a
      obtain ⟨vs, ho1, he1⟩ := hT
      have hRow : RowN none (w4.alloc (.cells #[.slice la rn lc] 31)) (.slice la rn lc) P := (rowN_own ho4 HPLN.out (fun _ h => by cases h)).keep (KeepN.below ((Below.refl _ _).alloc (Nat.le_refl _) _))
      have ho1' := ho1
      rw [HLC.out] at ho1'
      have M1 := hid (show k + 1 ≤ maxLen by unfold maxLen; omega)
      have M2 := hid (show (k + 1) * 24 ≤ 140737488355328 by omega)
      have M3 := hid (Nat.le_trans HBK.out.size hb4a.size)
      have HO1 := hid ho1
      have HO1' := hid ho1'
      have HE1 := hid he1
      have HRW := hid hRow
      have HB4 := hid hb4a
      clear ho1 ho1' he1 hRow hb4a ho4 hb4
      go_wp2_with (at_builtin; refine wpList_app _ rfl (.tmp 25) (.tmp 28) 22 rfl w.heap.size 31 (.slice none 0 0) 1 24 Try.underlying22 li_ints rfl Nat.one_pos (.slice va k vc) k vs rfl HO1'.out (some ⟨w4.heap.size, 0, none⟩) 1 1 [.slice la rn lc] rfl rfl no_none (one_news w4 _ _) (slice_oneCell _ _ _) M1.out M2.out M3.out ?_; refine Stop.of ?_)
      refine Stop.go ?_
      intro a5 c5 w5 own5 g5
      have hsn : TabN none w5 w.heap.size (.slice a5 (k + 1) c5) (C ++ [P]) := TabN.snoc HO1.out HE1.out HRW.out g5 (by rw [HLC.out]; exact own5)
      have hB5 : Below w.heap.size w w5 := (HBK.out.trans (HB4.out.mono HBK.out.size)).grown g5 M3.out (fun q hq => (HO1'.out.lt q hq).1)
      rw [← HTK.out] at hsn
      go_wp2
      exact ⟨⟨k + 1, by omega, by go_num, hsn, hB5⟩, by simp [intOf]; omega⟩
    · obtain rfl : k = n := by omega
      rw [List.take_of_length_le (by rw [HN.out]; exact Nat.le_refl _)] at ho
      have hI : RedI w wo L 0 u4 (.slice none 0 0) (.slice none 0 0) := ⟨ho, TabN.nil _ _ _, World.ownsRow_nil _ _ _ _, hbk⟩
      clear ho hbk
      go_wp2
      go_loopw [4, 5, 8, 9] (fun l d p i wr => ∃ j : Nat, j ≤ W ∧ i = .int .i64 j ∧ RedI w wr L j l d p) (fun _ _ _ i _ => W - (intOf i).toNat)
      case atStart => exact ⟨0, Nat.zero_le _, rfl, hI⟩
      case round =>
        clear hI
        obtain ⟨w0, hw0⟩ : ∃ w0, w0 = wo := ⟨_, rfl⟩
        subst hw0
        obtain ⟨wo, hwo⟩ : ∃ wo, wo = wr := ⟨_, rfl⟩
        subst hwo
        obtain ⟨j, hj, rfl, hI⟩ := hrel
        have HI := hid hI
        have hls := HLEN.out j
        have hpl := HPL.out j
        have hbb := HBB.out j hj
        have hsucc := rRed_succ L j
        have hend : j = W ∨ (rRed L j).left = [] → rRed L W = rRed L j := by
          rintro (rfl | h)
          · rfl
          · have := rRed_stop h (W - j)
            rwa [show j + (W - j) = W by omega] at this
        obtain ⟨hl, hd, hp, hbw⟩ := hI
        obtain ⟨s, hs⟩ : ∃ s, s = rRed L j := ⟨_, rfl⟩
        rw [← hs] at hls hpl hbb hsucc hend hl hd hp
        obtain ⟨ln, hln⟩ : ∃ ln, ln = s.left.length := ⟨_, rfl⟩
        obtain ⟨dn, hdn⟩ : ∃ dn, dn = s.done.length := ⟨_, rfl⟩
        obtain ⟨la, lc, rfl⟩ : ∃ la lc, u4 = .slice la ln lc := by
          obtain ⟨_, ho1, _⟩ := hl
          obtain ⟨a', c', e⟩ := ownsRow_slice ho1
          exact ⟨a', c', by rw [e, hln]⟩
        obtain ⟨da, dc, rfl⟩ : ∃ la lc, u5 = .slice la dn lc := by
          obtain ⟨_, ho1, _⟩ := hd
          obtain ⟨a', c', e⟩ := ownsRow_slice ho1
          exact ⟨a', c', by rw [e, hdn]⟩
        obtain ⟨pa, pc, rfl⟩ : ∃ la lc, u8 = .slice la dn lc := by
          obtain ⟨a', c', e⟩ := ownsRow_slice hp
          exact ⟨a', c', by rw [e, hpl, hdn]⟩
        have HS := hid hs
        have HEND := hid hend
        have HSUCC := hid hsucc
        have HBBS := hid hbb
        have HPLS := hid hpl
        have HL := hid hl
        have HD := hid hd
        have HP := hid hp
        have HBW := hid hbw
        have HLN := hid hln
        have HDN := hid hdn
        have hln6 : ln ≤ 1000 := by omega
        have hdn6 : dn ≤ 1000 := by omega
        clear hs hend hsucc hbb hpl hl hd hp hbw hls
        by_cases h0 : ln = 0
        · subst h0
          have he : rRed L W = s := HEND.out (.inr (List.length_eq_zero_iff.1 hln.symm))
          have HE := hid he
          clear he hln hdn
          go_wp2
          go_ret2
          exact ⟨_, _, rfl, by rw [HE.out]; exact HD.out.tab, by rw [HE.out]; exact HP.out, HBW.out⟩
        · have hz : (0 : Int) < (ln : Int) := by omega
          obtain ⟨g0, lcap, u0, e0, hg0, hg0s, _, hc0, hr0, _, _⟩ := HL.out.at hln.symm (i := 0) (by omega)
          cases e0
          have hw0 := (HBBS.out (s.left[0]?.getD []) (by
            rw [List.getElem?_eq_getElem (by omega)]; exact List.mem_append_right _ (List.getElem_mem _))).1
          obtain ⟨ra0, rc0, hu0⟩ := hr0.row.slice
          rw [hw0] at hu0
          subst hu0
          clear hw0 hr0 hln hdn
          by_cases hjW : j = W
          · subst hjW
            have he := HEND.out (.inl rfl)
            have HE := hid he
            clear he
            go_wp2
            go_ret2
            exact ⟨_, _, rfl, by rw [HE.out]; exact HD.out.tab, by rw [HE.out]; exact HP.out, HBW.out⟩
          · have hjlt : j < W := by omega
            have hji : (j : Int) < (W : Int) := by omega
            have hat : ∀ k, k < ln → ∃ g c x, wo.cell? ⟨g0, k, none⟩ = some (.slice (some ⟨g, 0, none⟩) W c) ∧ SpRow wo g (s.left[k]?.getD []) ∧ wo.cell? ⟨g, j, none⟩ = some (.int .i64 x) ∧ x = vec (s.left[k]?.getD []) j ∧ (s.left[k]?.getD []).length = W ∧
                RowN (Value.slice pa dn pc).ownBlock wo (.slice (some ⟨g, 0, none⟩) W c) (s.left[k]?.getD []) ∧ lastI (nz j) (s.left.take (k + 1)) = if x = 0 then lastI (nz j) (s.left.take k) else (k : Int) := by
              intro k hk
              obtain ⟨g1, c1, u, e1, _, _, _, hc, hr, _, _⟩ := HL.out.at HLN.out.symm hk
              cases e1
              have hkl : k < s.left.length := by rw [← HLN.out]; exact hk
              have hlw := (HBBS.out (s.left[k]?.getD []) (by rw [List.getElem?_eq_getElem hkl]; exact List.mem_append_right _ (List.getElem_mem _))).1
              have hsp : ∃ g c, u = .slice (some ⟨g, 0, none⟩) W c ∧ SpRow wo g (s.left[k]?.getD []) := by
                rcases hr with ⟨g, c, e, hs, _⟩ | ⟨e, _⟩
                · rw [hlw] at e; exact ⟨g, c, e, hs⟩
                · rw [e] at hlw; simp at hlw; omega
              obtain ⟨g, c, rfl, hsp⟩ := hsp
              refine ⟨g, c, _, hc, hsp, hsp.cell (by omega), rfl, hlw, hr, ?_⟩
              rw [lastI_take _ hkl]
              have : s.left[k]?.getD [] = s.left[k] := by rw [List.getElem?_eq_getElem hkl]; rfl
              rw [this]
              unfold nz
              by_cases hx : vec s.left[k] j = 0
              · rw [if_neg (by simpa using hx)]
                exact (if_pos hx).symm
              · rw [if_pos (by simpa using hx)]
                exact (if_neg hx).symm
            have HAT := hid hat
            clear hat
            go_wp2
            go_loopw [10, 46] (fun z i wr => ∃ k : Nat, k ≤ ln ∧ i = .int .i64 k ∧ z = .int .i64 (lastI (nz j) (s.left.take k)) ∧ wr = wo) (fun _ i _ => ln - (intOf i).toNat)
            case atStart => exact ⟨0, Nat.zero_le _, rfl, rfl, rfl⟩
            case round =>
              obtain ⟨k, hk, rfl, rfl, rfl⟩ := hrel
              by_cases hkl : k < ln
              · obtain ⟨g, c, x, hc1, _, hc2, _, _, _, hla⟩ := HAT.out k hkl
                have HLA := hid hla
                clear hla
                have hki : (k : Int) < (ln : Int) := by omega
                by_cases hx : x = 0
                · subst hx
                  go_wp2
                  exact ⟨⟨k + 1, by omega, by go_num, by rw [HLA.out]; rfl, by first | trivial | rfl⟩, by simp [intOf]; omega⟩
                · go_wp2
                  exact ⟨⟨k + 1, by omega, by go_num, by rw [HLA.out, if_neg hx], by first | trivial | rfl⟩, by simp [intOf]; omega⟩
              · obtain rfl : ln = k := by omega
                have htake : s.left.take ln = s.left := List.take_of_length_le (by rw [← HLN.out]; exact Nat.le_refl _)
                rw [htake]
                clear htake hkl
                cases hla : lastIx (nz j) s.left with
                | none =>
                  have hz1 : lastI (nz j) s.left = -1 := by unfold lastI; rw [hla]
                  have hst := rStep_none hla
                  rw [hz1]
                  have HST := hid hst
                  clear hla hz1 hst
                  go_wp2
                  refine ⟨⟨j + 1, by omega, by go_num, ?_⟩, by simp [intOf]; omega⟩
                  unfold RedI
                  rw [HSUCC.out, HST.out]
                  exact ⟨HL.out, HD.out, HP.out, HBW.out⟩
                | some q =>
                  have hz1 : lastI (nz j) s.left = (q : Int) := by unfold lastI; rw [hla]
                  have hst := rStep_some hla
                  obtain ⟨hq1, hq2⟩ := lastIx_some hla
                  rw [← HLN.out] at hq1
                  rw [hz1]
                  obtain ⟨g, c, x, hc1, hsp, hc2, hxv, hlw, hrn, _⟩ := HAT.out q hq1
                  have hbr := (HBBS.out (s.left[q]?.getD []) (by rw [List.getElem?_eq_getElem (by rw [← HLN.out]; exact hq1)]; exact List.mem_append_right _ (List.getElem_mem _))).2
                  obtain ⟨r, hr⟩ : ∃ r, r = s.left[q]?.getD [] := ⟨_, rfl⟩
                  rw [← hr] at hst hsp hxv hlw hrn hbr
                  have hbp := posF_bnd hbr j
                  have hlp : (posF r j).length = W := by rw [posF_len]; exact hlw
                  have HSC := hid (r3scaled_c wr (some ⟨g, 0, none⟩) W c r hlw hW hsp.ints (fun y hy => by have := hbr y hy; omega))
                  have hpf1 : x < 0 → posF r j = negF r := fun h => by unfold posF; rw [if_pos (by rw [← hxv]; exact h)]
                  have hpf2 : ¬ x < 0 → posF r j = r := fun h => by unfold posF; rw [if_neg (by rw [← hxv]; exact h)]
                  obtain ⟨P, hP⟩ : ∃ P, P = posF r j := ⟨_, rfl⟩
                  rw [← hP] at hst hbp hlp hpf1 hpf2
                  have hpn : ∀ k, (Value.slice pa dn pc).ownBlock = some k → k < wr.heap.size := fun k hk => by
                    obtain ⟨_, c, hc⟩ := own_type HP.out hk
                    exact (Array.getElem?_eq_some_iff.1 hc).1
                  have hnl : (negF r).length = W := by unfold negF; rw [List.length_map]; exact hlw
                  have HST := hid hst
                  have HRN := hid hrn
                  have HBP := hid hbp
                  have HLP := hid hlp
                  have HPF1 := hid hpf1
                  have HPF2 := hid hpf2
                  have HPN := hid hpn
                  have HNL := hid hnl
                  have hqi : (q : Int) < (ln : Int) := by omega
                  clear hla hz1 hst hq2 hsp hxv hlw hrn hbr hr hbp hlp hpf1 hpf2 hP hpn hnl
                  go_upto_if 68 with fail
                  go_cut [13] from 31 to 112 (fun v wx => RowN (Value.slice pa dn pc).ownBlock wx v P ∧ Below wr.heap.size wr wx)
                  case first =>
                    by_cases hx0 : x < 0
                    · have HE := hid (HPF1.out hx0)
                      go_wp2_with (go_at_call 68; refine HSC.out.mono ?_; rintro e w3 ⟨v3, rfl, ho3, hb3⟩)
                      go_meet
                      case rel =>
                        refine ⟨?_, hb3⟩
                        rw [HE.out]
                        exact rowN_own ho3 HNL.out HPN.out
                    · have HE := hid (HPF2.out hx0)
                      go_wp2
                      go_meet
                      case rel =>
                        refine ⟨?_, Below.refl _ _⟩
                        rw [HE.out]
                        exact HRN.out
                  case rest =>
                    obtain ⟨hq, hbc⟩ := hcut
                    obtain ⟨gp, cp, e, hsp⟩ := hq.form (by rw [HLP.out]; omega)
                    rw [HLP.out] at e
                    subst e
                    have hS := RedS.start (w := w) (wr := wc) (L := L) (j := j) (l := .slice (some ⟨g0, 0, none⟩) ln lc) (d := .slice da dn dc) (p := .slice pa dn pc) ⟨by rw [← HS.out]; exact HL.out.below hbc, by rw [← HS.out]; exact HD.out.below hbc, by rw [← HS.out]; exact own_below HP.out hbc, chain HBW.out hbc⟩ hq
                    rw [← HS.out] at hS
                    have HS0 := hid hS
                    have HBC := hid hbc
                    clear hS hsp hq hbc
                    obtain ⟨wo, hwo⟩ : ∃ wo, wo = wr := ⟨_, rfl⟩
                    subst hwo
                    obtain ⟨f, hf⟩ : ∃ f, f = withoutF P j := ⟨_, rfl⟩
                    have HF := hid (fun (r : List Int) => show f r = withoutF P j r by rw [hf])
                    have hst2 := HST.out
                    rw [← hf] at hst2
                    have HST2 := hid hst2
                    have hjn : j < W := hjlt
                    clear hf hst2 HST HSC HPF1 HPF2 hc1 hc2
                    go_wp2
                    go_loopw [14, 73] (fun v i wz => ∃ k : Nat, k ≤ ln ∧ i = .int .i64 k ∧ RedS w wc.heap.size wz (.slice (some ⟨g0, 0, none⟩) ln lc) (.slice da dn dc) v (.slice (some ⟨gp, 0, none⟩) W cp) (.slice pa dn pc) s.left s.done (restT f s.left q k) P s.piv ∧ Below wc.heap.size wc wz) (fun _ i _ => ln - (intOf i).toNat)
                    case atStart => exact ⟨0, Nat.zero_le _, rfl, by rw [restT_zero]; exact HS0.out, Below.refl _ _⟩
                    case round =>
                      obtain ⟨k, hk, rfl, hS, hbz⟩ := hrel
                      by_cases hkl : k < ln
                      · obtain ⟨gk, ck, xk, hk1, hk2, _, _, hkw, _, _⟩ := HAT.out k hkl
                        have hks : k < s.left.length := by rw [← HLN.out]; exact hkl
                        have hcell : wr.cell? ⟨g0, k, none⟩ = some (.slice (some ⟨gk, 0, none⟩) W ck) := ((chain HBC.out hbz).cell (p := ⟨g0, k, none⟩) hg0s).trans hk1
                        have hgk : s.left[k]?.getD [] = s.left[k] := by rw [List.getElem?_eq_getElem hks]; rfl
                        by_cases hkq : k = q
                        · subst hkq
                          have hre := restT_eq (f := f) hks
                          have HRE := hid hre
                          have HSS := hid hS
                          have HBZ := hid hbz
                          clear hre hS hbz hgk hks hk1 hk2 hkw
                          go_wp2
                          exact ⟨⟨k + 1, by omega, by go_num, by rw [HRE.out]; exact HSS.out, HBZ.out⟩, by simp [intOf]; omega⟩
                        · have hne : ¬ (k : Int) = (q : Int) := by omega
                          have hkb := (HBBS.out s.left[k] (List.mem_append_right _ (List.getElem_mem _))).2
                          have hrow : IntsAt wr (some ⟨gk, 0, none⟩) s.left[k] := by rw [← hgk]; exact hk2.ints.below (chain HBC.out hbz)
                          have hpp : IntsAt wr (some ⟨gp, 0, none⟩) P := (hS.hq.sp (by rw [HLP.out]; omega)).ints
                          rw [hgk] at hkw
                          have HWO := hid (r3without_c wr (some ⟨gk, 0, none⟩) (some ⟨gp, 0, none⟩) W ck cp s.left[k] P hkw HLP.out hW hrow hpp hkb HBP.out j hjlt)
                          have hre := restT_ne (f := f) hks hkq
                          have hXl : (withoutF P j s.left[k]).length = W := by rw [withoutF_len (by rw [hkw, HLP.out])]; exact hkw
                          rw [HF.out s.left[k]] at hre
                          obtain ⟨X, hX⟩ : ∃ X, X = withoutF P j s.left[k] := ⟨_, rfl⟩
                          rw [← hX] at HWO hre hXl
                          have hrl := restT_len f s.left q k
                          obtain ⟨R, hR⟩ : ∃ R, R = restT f s.left q k := ⟨_, rfl⟩
                          rw [← hR] at hre hrl hS
                          obtain ⟨rn, hrn⟩ : ∃ rn, rn = R.length := ⟨_, rfl⟩
                          obtain ⟨va, vc, rfl⟩ : ∃ va vc, u14 = .slice va rn vc := by
                            obtain ⟨_, ho1, _⟩ := hS.hr
                            obtain ⟨a', c', e⟩ := ownsRow_slice ho1
                            exact ⟨a', c', by rw [e, hrn]⟩
                          have hrn6 : rn ≤ 1000 := by omega
                          have HRNL := hid hrn
                          have HRE := hid hre
                          have HXL := hid hXl
                          have HSS := hid hS
                          have HBZ := hid hbz
                          clear hre hS hbz hgk hks hk1 hk2 hkw hX hR hrn hXl hrow hpp hkb hrl
                          go_wp2_with (go_at_call 136; refine HWO.out.mono ?_; rintro e w4 ⟨v4, b4, rfl, hb4s, ho4, hb4⟩; refine Stop.of ?_)
                          refine Stop.go ?_
                          obtain ⟨xa, xc, rfl⟩ := ownsRow_slice ho4
                          have hba : Below wr.heap.size wr (w4.alloc (.cells #[.slice xa W xc] 31)) := hb4.alloc hb4.size _
                          have h4 := HSS.out.below hba
                          have hu : RowN (Value.slice pa dn pc).ownBlock (w4.alloc (.cells #[.slice xa W xc] 31)) (.slice xa W xc) X := (rowN_own ho4 HXL.out (fun k' hk' => by have := h4.pR k' hk'; have := HSS.out.hR; omega)).keep (KeepN.below ((Below.refl _ _).alloc (Nat.le_refl _) _))
                          obtain ⟨vs, hv1, hv2⟩ := h4.hr
                          have hv1' := hv1
                          rw [← HRNL.out] at hv1'
                          have M1 := hid (show rn + 1 ≤ maxLen by unfold maxLen; omega)
                          have M2 := hid (show (rn + 1) * 24 ≤ 140737488355328 by omega)
                          have M3 := hid h4.hR
                          have H4 := hid h4
                          have HV1 := hid hv1
                          have HV1' := hid hv1'
                          have HV2 := hid hv2
                          have HU := hid hu
                          have HBA := hid (chain HBZ.out hba)
                          clear h4 hv1 hv1' hv2 hu hba ho4 hb4 hb4s
                          go_wp2_with (at_builtin; refine wpList_app _ rfl (.tmp 81) (.tmp 86) 22 rfl wc.heap.size 31 (.slice none 0 0) 1 24 Try.underlying22 li_ints rfl Nat.one_pos (.slice va rn vc) rn vs rfl HV1'.out (some ⟨w4.heap.size, 0, none⟩) 1 1 [.slice xa W xc] rfl rfl no_none (one_news w4 _ _) (slice_oneCell _ _ _) M1.out M2.out M3.out ?_; refine Stop.of ?_)
                          refine Stop.go ?_
                          intro a5 c5 w5 own5 g5
                          have h5 := H4.out.push HV1.out HV2.out HU.out g5 (r' := .slice a5 (rn + 1) c5) (by rw [← HRNL.out]; exact own5)
                          rw [← HRE.out] at h5
                          have hb5 : Below wc.heap.size wc w5 := HBA.out.grown g5 M3.out fun k' hk' => (own_type HV1'.out hk').1
                          go_wp2
                          exact ⟨⟨k + 1, by omega, by go_num, h5, hb5⟩, by simp [intOf]; omega⟩
                      · obtain rfl : ln = k := by omega
                        have hall := restT_all (f := f) (a := q) HLN.out.symm
                        rw [hall] at hS
                        have hS2 := hS.drop
                        have HS2 := hid hS2
                        clear hS hS2 hall hbz hkl hk
                        obtain ⟨wq, hwq⟩ : ∃ wq, wq = wr := ⟨_, rfl⟩
                        subst hwq
                        go_wp2
                        go_loopw [91] (fun i wz => ∃ k : Nat, k ≤ dn ∧ i = .int .i64 k ∧ RedS w wc.heap.size wz (.slice none 0 0) (.slice da dn dc) u14 (.slice (some ⟨gp, 0, none⟩) W cp) (.slice pa dn pc) [] (doneT f s.done k) ((s.left.eraseIdx q).map f) P s.piv) (fun i _ => dn - (intOf i).toNat)
                        case atStart => exact ⟨0, Nat.zero_le _, rfl, by rw [doneT_zero]; exact HS2.out⟩
                        case round =>
                          obtain ⟨k, hk, rfl, hS⟩ := hrel
                          by_cases hkl : k < dn
                          · have hks : k < s.done.length := by rw [← HDN.out]; exact hkl
                            obtain ⟨gd, cd, ud, ed, _, _, _, hcd, hrd, _, _⟩ := hS.hd.at (by rw [doneT_len]; exact HDN.out.symm) hkl
                            cases ed
                            rw [doneT_at hks] at hrd
                            have hkw := HBBS.out s.done[k] (List.mem_append_left _ (List.getElem_mem _))
                            obtain ⟨gk, ck, ek, hsk⟩ := hrd.form (by rw [hkw.1]; omega)
                            rw [hkw.1] at ek
                            subst ek
                            have hpp : IntsAt wr (some ⟨gp, 0, none⟩) P := (hS.hq.sp (by rw [HLP.out]; omega)).ints
                            have HWO := hid (r3without_c wr (some ⟨gk, 0, none⟩) (some ⟨gp, 0, none⟩) W ck cp s.done[k] P hkw.1 HLP.out hW hsk.ints hpp hkw.2 HBP.out j hjlt)
                            have hre := doneT_succ (f := f) hks
                            have hXl : (withoutF P j s.done[k]).length = W := by rw [withoutF_len (by rw [hkw.1, HLP.out])]; exact hkw.1
                            rw [HF.out s.done[k]] at hre
                            obtain ⟨X, hX⟩ : ∃ X, X = withoutF P j s.done[k] := ⟨_, rfl⟩
                            rw [← hX] at HWO hre hXl
                            have hki : (k : Int) < (dn : Int) := by omega
                            have HRE := hid hre
                            have HXL := hid hXl
                            have HSS := hid hS
                            clear hre hS hks hkw hX hXl hpp hrd hsk
                            go_wp2_with (go_at_call 136; refine HWO.out.mono ?_; rintro e w4 ⟨v4, b4, rfl, hb4s, ho4, hb4⟩; refine Stop.of ?_)
                            refine Stop.go ?_
                            obtain ⟨xa, xc, rfl⟩ := ownsRow_slice ho4
                            have h4 := HSS.out.below hb4
                            have hu : RowN (Value.slice pa dn pc).ownBlock w4 (.slice xa W xc) X := rowN_own ho4 HXL.out (fun k' hk' => by have := h4.pR k' hk'; have := HSS.out.hR; omega)
                            obtain ⟨g6, c6, v6, e6, hc6, hf6, h6⟩ := h4.store (by rw [doneT_len]; exact HDN.out.symm) hkl hu
                            cases e6
                            rw [← HRE.out] at h6
                            have H6 := hid h6
                            clear h6 h4 hu ho4 hb4 hb4s hcd
                            go_wp2
                            exact ⟨⟨k + 1, by omega, by go_num, H6.out⟩, by simp [intOf]; omega⟩
                          · obtain rfl : dn = k := by omega
                            have hall := doneT_all (f := f) HDN.out.symm
                            rw [hall] at hS
                            obtain ⟨D, hD⟩ : ∃ D, D = s.done.map f := ⟨_, rfl⟩
                            have hDl : D.length = dn := by rw [hD, List.length_map]; exact HDN.out.symm
                            have hst3 := HST2.out
                            rw [← hD] at hst3 hS
                            have h4 := hS.below ((Below.refl _ wr).alloc (Nat.le_refl _) (.cells #[.slice (some ⟨gp, 0, none⟩) W cp] 31))
                            obtain ⟨vs, hv1, hv2⟩ := h4.hd
                            have hv1' := hv1
                            rw [hDl] at hv1'
                            have hpl := HPLS.out
                            rw [← HDN.out] at hpl
                            have HPL2 := hid hpl
                            have M1 := hid (show dn + 1 ≤ maxLen by unfold maxLen; omega)
                            have M2 := hid (show (dn + 1) * 24 ≤ 140737488355328 by omega)
                            have M2' := hid (show (dn + 1) * 8 ≤ 140737488355328 by omega)
                            have M3 := hid (Nat.le_trans h4.hw h4.hR)
                            have H4 := hid h4
                            have HV1 := hid hv1
                            have HV1' := hid hv1'
                            have HV2 := hid hv2
                            have HDL := hid hDl
                            have HST3 := hid hst3
                            clear h4 hv1 hv1' hv2 hDl hst3 hD hall hS hpl hk hkl
                            go_wp2_with (at_builtin; refine wpList_app _ rfl (.tmp 105) (.tmp 107) 22 rfl w.heap.size 31 (.slice none 0 0) 1 24 Try.underlying22 li_ints rfl Nat.one_pos (.slice da dn dc) dn vs rfl HV1'.out (some ⟨wr.heap.size, 0, none⟩) 1 1 [.slice (some ⟨gp, 0, none⟩) W cp] rfl rfl no_none (one_news wr _ _) (slice_oneCell _ _ _) M1.out M2.out M3.out ?_; refine Stop.of ?_)
                            refine Stop.go ?_
                            intro a5 c5 w5 own5 g5
                            obtain ⟨e1, e2, e3, e4⟩ := H4.out.onto HV1.out HV2.out g5 (d' := .slice a5 (dn + 1) c5) (by rw [HDL.out]; exact own5)
                            have hal : Below w5.heap.size w5 (w5.alloc (.cells #[.int .i64 j] 3)) := (Below.refl _ _).alloc (Nat.le_refl _) _
                            have E1 := hid (e1.below hal)
                            have E2 := hid (e2.below hal)
                            have E3 := hid (own_below e3 hal)
                            have E4 := hid (chain e4 hal)
                            have e3' := E3.out
                            rw [HPL2.out] at e3'
                            have E3' := hid e3'
                            have M4 := hid E4.out.size
                            clear e1 e2 e3 e4 e3' hal own5 g5
                            go_wp2_with (at_builtin; refine wpList_app_at _ rfl (.tmp 109) (.tmp 111) 31 rfl w.heap.size 3 (.int .i64 0) 1 8 Try.underlying31 li_int rfl Nat.one_pos (.slice pa dn pc) dn _ rfl E3'.out ⟨w5.heap.size, 0, none⟩ 1 1 [.int .i64 j] rfl rfl (one_news w5 _ _ _ rfl) (li_one _) M1.out M2'.out M4.out ?_; refine Stop.of ?_)
                            refine Stop.go ?_
                            intro a6 c6 w6 own6 g6 hat6
                            have hfin := red_end E1.out E2.out E3.out E4.out g6 (by rw [World.size_alloc]; exact hat6) (by rw [HPL2.out]; exact own6)
                            have HFIN := hid hfin
                            clear hfin own6 g6 hat6
                            go_wp2
                            refine ⟨⟨j + 1, by omega, by go_num, ?_⟩, by simp [intOf]; omega⟩
                            unfold RedI
                            rw [HSUCC.out, HST3.out]
                            exact HFIN.out
end Go.Proofs.Ytfipebkhomppmaa

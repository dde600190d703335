/- Walks and plain laws for StreamSentRow, part 5. -/
import Derived.Deep.CutRange
import Derived.Sort.QuietIn
import Derived.Sort.LoopGhostIn
import Derived.Sort.CutIn
import Derived.Test.YtkmjeegnijohmaaGreatPkStreamSentRow4
namespace Go.Proofs.YtkmjeegnijohmaaGreat
open Go.RowKit
set_option linter.unusedVariables false

theorem RowN.sp {N : Option Nat} {X : World} {g n c : Nat} {P : List Int} (h : RowN N X (.slice (some ⟨g, 0, none⟩) n c) P) (h0 : 0 < P.length) : SpRow X g P := by
  rcases h with ⟨g', c', e, hs, _⟩ | ⟨rfl, _⟩
  · cases e; exact hs
  · simp at h0
theorem RowN.form {N : Option Nat} {X : World} {v : Value} {P : List Int} (h : RowN N X v P) (h0 : 0 < P.length) : ∃ g c, v = .slice (some ⟨g, 0, none⟩) P.length c ∧ SpRow X g P := by
  rcases h with ⟨g', c', e, hs, _⟩ | ⟨rfl, _⟩
  · exact ⟨_, _, e, hs⟩
  · simp at h0
theorem posF_bnd {B : Nat} {l : List Int} (h : BndL B l) (j : Nat) : BndL B (posF l j) := by
  unfold posF
  split
  · intro x hx
    obtain ⟨y, hy, rfl⟩ := List.mem_map.1 hx
    have := h y hy
    omega
  · exact h
theorem RedS.drop {w : World} {R0 : Nat} {A : World} {l d r q p : Value} {left done rest : List (List Int)} {P : List Int} {J : List Nat} (h : RedS w R0 A l d r q p left done rest P J) : RedS w R0 A (.slice none 0 0) d r q p [] done rest P J :=
  ⟨TabN.nil _ _ _, h.hd, h.hr, h.hq, h.hp, h.hb, h.hR, h.hw, fun k hk => by simp [Value.ownBlock] at hk, h.dR, h.pR⟩

set_option maxRecDepth 100000 in
set_option maxHeartbeats 4000000 in
theorem r3reduced_c (w : World) (a : Option Addr) (n cap : Nat) (L : List (List Int)) (W : Nat) (hn : L.length = n) (hn6 : n ≤ 1000) (H : RowsAt w a L) (hw : ∀ r ∈ L, r.length = W) (hW : W ≤ 1000) (hB0 : ∀ r ∈ L, BndL 4611686018427387904 r)
    (hB : ∀ t, t ≤ W → ∀ r ∈ (rRed L t).done ++ (rRed L t).left, r.length = W ∧ BndL 1073741824 r) (hlen : ∀ t, (rRed L t).done.length + (rRed L t).left.length = n) (hpl : ∀ t, (rRed L t).piv.length = (rRed L t).done.length) :
    Calls Tryz.prog 111 #[.slice a n cap] w fun e w' => ∃ vD vP, e = .returned (.tuple #[vD, vP]) ∧ TabS w' w.heap.size vD (rRed L W).done ∧ w'.ownsRow w.heap.size 3 1 vP (rRed L W).piv.length ((castL (rRed L W).piv).map (Value.int .i64)) ∧ Below w.heap.size w w' := by
  have HN := hid hn
  have HH := hid H
  have HW := hid hw
  have HB0 := hid hB0
  have HBB := hid hB
  have HLEN := hid hlen
  have HPL := hid hpl
  clear hn H hw hB0 hB hlen hpl
  go_enter Tryz.func111, Tryz.ntmps111
  go_wp2
  go_loopw [4, 21] (fun v i wr => ∃ k : Nat, k ≤ n ∧ i = .int .i64 k ∧ TabN none wr w.heap.size v ((L.take k).map primF) ∧ Below w.heap.size w wr) (fun _ i _ => n - (intOf i).toNat)
  case atStart => exact ⟨0, Nat.zero_le _, rfl, TabN.nil _ _ _, Below.refl _ _⟩
  case round =>
    obtain ⟨k, hk, rfl, ho, hbk⟩ := hrel
    obtain ⟨wo, hwo⟩ : ∃ wo, wo = wr := ⟨_, rfl⟩
    subst hwo
    by_cases hlt : k < n
    · have hkL : k < L.length := by rw [HN.out]; exact hlt
      obtain ⟨b, off, ra, rn, rc, rfl, hbs, hq0, hrn, hrm, hri⟩ := (HH.out.below hbk) k hkL
      have htk : (L.take (k + 1)).map primF = (L.take k).map primF ++ [primF L[k]] := by rw [List.take_succ_eq_append_getElem hkL, List.map_append]; rfl
      obtain rfl : rn = W := by rw [← hrn]; exact HW.out _ (List.getElem_mem hkL)
      obtain ⟨C, hC⟩ : ∃ C, C = (L.take k).map primF := ⟨_, rfl⟩
      have hlenC : C.length = k := by rw [hC, List.length_map, List.length_take, HN.out]; omega
      rw [← hC] at htk ho
      have HPR := hid (r3primitive_c wo ra rn rc L[k] hrn hW hri (HB0.out _ (List.getElem_mem hkL)))
      obtain ⟨r, hr⟩ : ∃ r, r = L[k] := ⟨_, rfl⟩
      rw [← hr] at htk HPR hrn
      have hpl : (primF r).length = rn := by unfold primF; rw [List.length_map]; exact hrn
      obtain ⟨P, hP⟩ : ∃ P, P = primF r := ⟨_, rfl⟩
      rw [← hP] at HPR htk hpl
      have HTK := hid htk
      have HLC := hid hlenC
      have HPLN := hid hpl
      have HBK := hid hbk
      have HO := hid ho
      obtain ⟨va, vc, rfl⟩ : ∃ va vc, u4 = .slice va k vc := by
        obtain ⟨_, ho1, _⟩ := ho
        obtain ⟨a', c', e⟩ := ownsRow_slice ho1
        exact ⟨a', c', by rw [e, hlenC]⟩
      clear hC hr hP htk hlenC hpl ho hri hrn hkL hbk
      go_wp2_with (go_at_call 113; refine HPR.out.mono ?_; rintro e w4 ⟨v4, rfl, ho4, hb4⟩; refine Stop.of ?_)
      refine Stop.go ?_
      obtain ⟨la, lc, rfl⟩ := ownsRow_slice ho4
      have hb4a : Below wo.heap.size wo (w4.alloc (.cells #[.slice la rn lc] 33)) := hb4.alloc hb4.size _
      have hT := HO.out.below hb4a
      obtain ⟨vs, ho1, he1⟩ := hT
      have hRow : RowN none (w4.alloc (.cells #[.slice la rn lc] 33)) (.slice la rn lc) P := (rowN_own ho4 HPLN.out (fun _ h => by cases h)).keep (KeepN.below ((Below.refl _ _).alloc (Nat.le_refl _) _))
      have ho1' := ho1
      rw [HLC.out] at ho1'
      have M1 := hid (show k + 1 ≤ maxLen by unfold maxLen; omega)
      have M2 := hid (show (k + 1) * 24 ≤ 140737488355328 by omega)
      have M3 := hid (Nat.le_trans HBK.out.size hb4a.size)
      have HO1 := hid ho1
      have HO1' := hid ho1'
      have HE1 := hid he1
      have HRW := hid hRow
      have HB4 := hid hb4a
      clear ho1 ho1' he1 hRow hb4a ho4 hb4
      go_wp2_with (at_builtin; refine wpList_app _ rfl (.tmp 25) (.tmp 28) 22 rfl w.heap.size 33 (.slice none 0 0) 1 24 Tryz.underlying22 li_ints rfl Nat.one_pos (.slice va k vc) k vs rfl HO1'.out (some ⟨w4.heap.size, 0, none⟩) 1 1 [.slice la rn lc] rfl rfl no_none (one_news w4 _ _) (slice_oneCell _ _ _) M1.out M2.out M3.out ?_; refine Stop.of ?_)
      refine Stop.go ?_
      intro a5 c5 w5 own5 g5
      have hsn : TabN none w5 w.heap.size (.slice a5 (k + 1) c5) (C ++ [P]) := TabN.snoc HO1.out HE1.out HRW.out g5 (by rw [HLC.out]; exact own5)
      have hB5 : Below w.heap.size w w5 := (HBK.out.trans (HB4.out.mono HBK.out.size)).grown g5 M3.out (fun q hq => (HO1'.out.lt q hq).1)
      rw [← HTK.out] at hsn
      go_wp2
      exact ⟨⟨k + 1, by omega, by go_num, hsn, hB5⟩, by simp [intOf]; omega⟩
    · obtain rfl : k = n := by omega
      rw [List.take_of_length_le (by rw [HN.out]; exact Nat.le_refl _)] at ho
      have hI : RedI w wo L 0 u4 (.slice none 0 0) (.slice none 0 0) := ⟨ho, TabN.nil _ _ _, World.ownsRow_nil _ _ _ _, hbk⟩
      clear ho hbk
      go_wp2
      go_loopw [4, 5, 8, 9] (fun l d p i wr => ∃ j : Nat, j ≤ W ∧ i = .int .i64 j ∧ RedI w wr L j l d p) (fun _ _ _ i _ => W - (intOf i).toNat)
      case atStart => exact ⟨0, Nat.zero_le _, rfl, hI⟩
      case round =>
        clear hI
        obtain ⟨w0, hw0⟩ : ∃ w0, w0 = wo := ⟨_, rfl⟩
        subst hw0
        obtain ⟨wo, hwo⟩ : ∃ wo, wo = wr := ⟨_, rfl⟩
        subst hwo
        obtain ⟨j, hj, rfl, hI⟩ := hrel
        have HI := hid hI
        have hls := HLEN.out j
        have hpl := HPL.out j
        have hbb := HBB.out j hj
        have hsucc := rRed_succ L j
        have hend : j = W ∨ (rRed L j).left = [] → rRed L W = rRed L j := by
          rintro (rfl | h)
          · rfl
          · have := rRed_stop h (W - j)
            rwa [show j + (W - j) = W by omega] at this
        obtain ⟨hl, hd, hp, hbw⟩ := hI
        obtain ⟨s, hs⟩ : ∃ s, s = rRed L j := ⟨_, rfl⟩
        rw [← hs] at hls hpl hbb hsucc hend hl hd hp
        obtain ⟨ln, hln⟩ : ∃ ln, ln = s.left.length := ⟨_, rfl⟩
        obtain ⟨dn, hdn⟩ : ∃ dn, dn = s.done.length := ⟨_, rfl⟩
        obtain ⟨la, lc, rfl⟩ : ∃ la lc, u4 = .slice la ln lc := by
          obtain ⟨_, ho1, _⟩ := hl
          obtain ⟨a', c', e⟩ := ownsRow_slice ho1
          exact ⟨a', c', by rw [e, hln]⟩
        obtain ⟨da, dc, rfl⟩ : ∃ la lc, u5 = .slice la dn lc := by
          obtain ⟨_, ho1, _⟩ := hd
          obtain ⟨a', c', e⟩ := ownsRow_slice ho1
          exact ⟨a', c', by rw [e, hdn]⟩
        obtain ⟨pa, pc, rfl⟩ : ∃ la lc, u8 = .slice la dn lc := by
          obtain ⟨a', c', e⟩ := ownsRow_slice hp
          exact ⟨a', c', by rw [e, hpl, hdn]⟩
        have HS := hid hs
        have HEND := hid hend
        have HSUCC := hid hsucc
        have HBBS := hid hbb
        have HPLS := hid hpl
        have HL := hid hl
        have HD := hid hd
        have HP := hid hp
        have HBW := hid hbw
        have HLN := hid hln
        have HDN := hid hdn
        have hln6 : ln ≤ 1000 := by omega
        have hdn6 : dn ≤ 1000 := by omega
        clear hs hend hsucc hbb hpl hl hd hp hbw hls
        by_cases h0 : ln = 0
        · subst h0
          have he : rRed L W = s := HEND.out (.inr (List.length_eq_zero_iff.1 hln.symm))
          have HE := hid he
          clear he hln hdn
          go_wp2
          go_ret2
          exact ⟨_, _, rfl, by rw [HE.out]; exact HD.out.tab, by rw [HE.out]; exact HP.out, HBW.out⟩
        · have hz : (0 : Int) < (ln : Int) := by omega
          obtain ⟨g0, lcap, u0, e0, hg0, hg0s, _, hc0, hr0, _, _⟩ := HL.out.at hln.symm (i := 0) (by omega)
          cases e0
          have hw0 := (HBBS.out (s.left[0]?.getD []) (by
            rw [List.getElem?_eq_getElem (by omega)]; exact List.mem_append_right _ (List.getElem_mem _))).1
          obtain ⟨ra0, rc0, hu0⟩ := hr0.row.slice
          rw [hw0] at hu0
          subst hu0
          clear hw0 hr0 hln hdn
          by_cases hjW : j = W
          · subst hjW
            have he := HEND.out (.inl rfl)
            have HE := hid he
            clear he
            go_wp2
            go_ret2
            exact ⟨_, _, rfl, by rw [HE.out]; exact HD.out.tab, by rw [HE.out]; exact HP.out, HBW.out⟩
          · have hjlt : j < W := by omega
            have hji : (j : Int) < (W : Int) := by omega
            have hat : ∀ k, k < ln → ∃ g c x, wo.cell? ⟨g0, k, none⟩ = some (.slice (some ⟨g, 0, none⟩) W c) ∧ SpRow wo g (s.left[k]?.getD []) ∧ wo.cell? ⟨g, j, none⟩ = some (.int .i64 x) ∧ x = vec (s.left[k]?.getD []) j ∧ (s.left[k]?.getD []).length = W ∧
                RowN (Value.slice pa dn pc).ownBlock wo (.slice (some ⟨g, 0, none⟩) W c) (s.left[k]?.getD []) ∧ lastI (nz j) (s.left.take (k + 1)) = if x = 0 then lastI (nz j) (s.left.take k) else (k : Int) := by
              intro k hk
              obtain ⟨g1, c1, u, e1, _, _, _, hc, hr, _, _⟩ := HL.out.at HLN.out.symm hk
              cases e1
              have hkl : k < s.left.length := by rw [← HLN.out]; exact hk
              have hlw := (HBBS.out (s.left[k]?.getD []) (by rw [List.getElem?_eq_getElem hkl]; exact List.mem_append_right _ (List.getElem_mem _))).1
              have hsp : ∃ g c, u = .slice (some ⟨g, 0, none⟩) W c ∧ SpRow wo g (s.left[k]?.getD []) := by
                rcases hr with ⟨g, c, e, hs, _⟩ | ⟨e, _⟩
                · rw [hlw] at e; exact ⟨g, c, e, hs⟩
                · rw [e] at hlw; simp at hlw; omega
              obtain ⟨g, c, rfl, hsp⟩ := hsp
              refine ⟨g, c, _, hc, hsp, hsp.cell (by omega), rfl, hlw, hr, ?_⟩
              rw [lastI_take _ hkl]
              have : s.left[k]?.getD [] = s.left[k] := by rw [List.getElem?_eq_getElem hkl]; rfl
              rw [this]
              unfold nz
              by_cases hx : vec s.left[k] j = 0
              · rw [if_neg (by simpa using hx)]
                exact (if_pos hx).symm
              · rw [if_pos (by simpa using hx)]
                exact (if_neg hx).symm
            have HAT := hid hat
            clear hat
            go_wp2
            go_loopw [10, 46] (fun z i wr => ∃ k : Nat, k ≤ ln ∧ i = .int .i64 k ∧ z = .int .i64 (lastI (nz j) (s.left.take k)) ∧ wr = wo) (fun _ i _ => ln - (intOf i).toNat)
            case atStart => exact ⟨0, Nat.zero_le _, rfl, rfl, rfl⟩
            case round =>
              obtain ⟨k, hk, rfl, rfl, rfl⟩ := hrel
              by_cases hkl : k < ln
              · obtain ⟨g, c, x, hc1, _, hc2, _, _, _, hla⟩ := HAT.out k hkl
                have HLA := hid hla
                clear hla
                have hki : (k : Int) < (ln : Int) := by omega
                by_cases hx : x = 0
                · subst hx
                  go_wp2
                  exact ⟨⟨k + 1, by omega, by go_num, by rw [HLA.out]; rfl, by first | trivial | rfl⟩, by simp [intOf]; omega⟩
                · go_wp2
                  exact ⟨⟨k + 1, by omega, by go_num, by rw [HLA.out, if_neg hx], by first | trivial | rfl⟩, by simp [intOf]; omega⟩
              · obtain rfl : ln = k := by omega
                have htake : s.left.take ln = s.left := List.take_of_length_le (by rw [← HLN.out]; exact Nat.le_refl _)
                rw [htake]
                clear htake hkl
                cases hla : lastIx (nz j) s.left with
                | none =>
                  have hz1 : lastI (nz j) s.left = -1 := by unfold lastI; rw [hla]
                  have hst := rStep_none hla
                  rw [hz1]
                  have HST := hid hst
                  clear hla hz1 hst
                  go_wp2
                  refine ⟨⟨j + 1, by omega, by go_num, ?_⟩, by simp [intOf]; omega⟩
                  unfold RedI
                  rw [HSUCC.out, HST.out]
                  exact ⟨HL.out, HD.out, HP.out, HBW.out⟩
                | some q =>
                  have hz1 : lastI (nz j) s.left = (q : Int) := by unfold lastI; rw [hla]
                  have hst := rStep_some hla
                  obtain ⟨hq1, hq2⟩ := lastIx_some hla
                  rw [← HLN.out] at hq1
                  rw [hz1]
                  obtain ⟨g, c, x, hc1, hsp, hc2, hxv, hlw, hrn, _⟩ := HAT.out q hq1
                  have hbr := (HBBS.out (s.left[q]?.getD []) (by rw [List.getElem?_eq_getElem (by rw [← HLN.out]; exact hq1)]; exact List.mem_append_right _ (List.getElem_mem _))).2
                  obtain ⟨r, hr⟩ : ∃ r, r = s.left[q]?.getD [] := ⟨_, rfl⟩
                  rw [← hr] at hst hsp hxv hlw hrn hbr
                  have hbp := posF_bnd hbr j
                  have hlp : (posF r j).length = W := by rw [posF_len]; exact hlw
                  have HSC := hid (r3scaled_c wr (some ⟨g, 0, none⟩) W c r hlw hW hsp.ints (fun y hy => by have := hbr y hy; omega))
                  have hpf1 : x < 0 → posF r j = negF r := fun h => by unfold posF; rw [if_pos (by rw [← hxv]; exact h)]
                  have hpf2 : ¬ x < 0 → posF r j = r := fun h => by unfold posF; rw [if_neg (by rw [← hxv]; exact h)]
                  obtain ⟨P, hP⟩ : ∃ P, P = posF r j := ⟨_, rfl⟩
                  rw [← hP] at hst hbp hlp hpf1 hpf2
                  have hpn : ∀ k, (Value.slice pa dn pc).ownBlock = some k → k < wr.heap.size := fun k hk => by
                    obtain ⟨_, c, hc⟩ := own_type HP.out hk
                    exact (Array.getElem?_eq_some_iff.1 hc).1
                  have hnl : (negF r).length = W := by unfold negF; rw [List.length_map]; exact hlw
                  have HST := hid hst
                  have HRN := hid hrn
                  have HBP := hid hbp
                  have HLP := hid hlp
                  have HPF1 := hid hpf1
                  have HPF2 := hid hpf2
                  have HPN := hid hpn
                  have HNL := hid hnl
                  have hqi : (q : Int) < (ln : Int) := by omega
                  clear hla hz1 hst hq2 hsp hxv hlw hrn hbr hr hbp hlp hpf1 hpf2 hP hpn hnl
                  go_upto_if 68 with fail
                  go_cut [13] from 31 to 112 (fun v wx => RowN (Value.slice pa dn pc).ownBlock wx v P ∧ Below wr.heap.size wr wx)
                  case first =>
                    by_cases hx0 : x < 0
                    · have HE := hid (HPF1.out hx0)
                      go_wp2_with (go_at_call 101; refine HSC.out.mono ?_; rintro e w3 ⟨v3, rfl, ho3, hb3⟩)
                      go_meet
                      case rel =>
                        refine ⟨?_, hb3⟩
                        rw [HE.out]
                        exact rowN_own ho3 HNL.out HPN.out
                    · have HE := hid (HPF2.out hx0)
                      go_wp2
                      go_meet
                      case rel =>
                        refine ⟨?_, Below.refl _ _⟩
                        rw [HE.out]
                        exact HRN.out
                  case rest =>
                    obtain ⟨hq, hbc⟩ := hcut
                    obtain ⟨gp, cp, e, hsp⟩ := hq.form (by rw [HLP.out]; omega)
                    rw [HLP.out] at e
                    subst e
                    have hS := RedS.start (w := w) (wr := wc) (L := L) (j := j) (l := .slice (some ⟨g0, 0, none⟩) ln lc) (d := .slice da dn dc) (p := .slice pa dn pc) ⟨by rw [← HS.out]; exact HL.out.below hbc, by rw [← HS.out]; exact HD.out.below hbc, by rw [← HS.out]; exact own_below HP.out hbc, chain HBW.out hbc⟩ hq
                    rw [← HS.out] at hS
                    have HS0 := hid hS
                    have HBC := hid hbc
                    clear hS hsp hq hbc
                    obtain ⟨wo, hwo⟩ : ∃ wo, wo = wr := ⟨_, rfl⟩
                    subst hwo
                    obtain ⟨f, hf⟩ : ∃ f, f = withoutF P j := ⟨_, rfl⟩
                    have HF := hid (fun (r : List Int) => show f r = withoutF P j r by rw [hf])
                    have hst2 := HST.out
                    rw [← hf] at hst2
                    have HST2 := hid hst2
                    have hjn : j < W := hjlt
                    clear hf hst2 HST HSC HPF1 HPF2 hc1 hc2
                    go_wp2
                    go_loopw [14, 73] (fun v i wz => ∃ k : Nat, k ≤ ln ∧ i = .int .i64 k ∧ RedS w wc.heap.size wz (.slice (some ⟨g0, 0, none⟩) ln lc) (.slice da dn dc) v (.slice (some ⟨gp, 0, none⟩) W cp) (.slice pa dn pc) s.left s.done (restT f s.left q k) P s.piv ∧ Below wc.heap.size wc wz) (fun _ i _ => ln - (intOf i).toNat)
                    case atStart => exact ⟨0, Nat.zero_le _, rfl, by rw [restT_zero]; exact HS0.out, Below.refl _ _⟩
                    case round =>
                      obtain ⟨k, hk, rfl, hS, hbz⟩ := hrel
                      by_cases hkl : k < ln
                      · obtain ⟨gk, ck, xk, hk1, hk2, _, _, hkw, _, _⟩ := HAT.out k hkl
                        have hks : k < s.left.length := by rw [← HLN.out]; exact hkl
                        have hcell : wr.cell? ⟨g0, k, none⟩ = some (.slice (some ⟨gk, 0, none⟩) W ck) := ((chain HBC.out hbz).cell (p := ⟨g0, k, none⟩) hg0s).trans hk1
                        have hgk : s.left[k]?.getD [] = s.left[k] := by rw [List.getElem?_eq_getElem hks]; rfl
                        by_cases hkq : k = q
                        · subst hkq
                          have hre := restT_eq (f := f) hks
                          have HRE := hid hre
                          have HSS := hid hS
                          have HBZ := hid hbz
                          clear hre hS hbz hgk hks hk1 hk2 hkw
                          go_wp2
                          exact ⟨⟨k + 1, by omega, by go_num, by rw [HRE.out]; exact HSS.out, HBZ.out⟩, by simp [intOf]; omega⟩
                        · have hne : ¬ (k : Int) = (q : Int) := by omega
                          have hkb := (HBBS.out s.left[k] (List.mem_append_right _ (List.getElem_mem _))).2
                          have hrow : IntsAt wr (some ⟨gk, 0, none⟩) s.left[k] := by rw [← hgk]; exact hk2.ints.below (chain HBC.out hbz)
                          have hpp : IntsAt wr (some ⟨gp, 0, none⟩) P := (hS.hq.sp (by rw [HLP.out]; omega)).ints
                          rw [hgk] at hkw
                          have HWO := hid (r3without_c wr (some ⟨gk, 0, none⟩) (some ⟨gp, 0, none⟩) W ck cp s.left[k] P hkw HLP.out hW hrow hpp hkb HBP.out j hjlt)
                          have hre := restT_ne (f := f) hks hkq
                          have hXl : (withoutF P j s.left[k]).length = W := by rw [withoutF_len (by rw [hkw, HLP.out])]; exact hkw
                          rw [HF.out s.left[k]] at hre
                          obtain ⟨X, hX⟩ : ∃ X, X = withoutF P j s.left[k] := ⟨_, rfl⟩
                          rw [← hX] at HWO hre hXl
                          have hrl := restT_len f s.left q k
                          obtain ⟨R, hR⟩ : ∃ R, R = restT f s.left q k := ⟨_, rfl⟩
                          rw [← hR] at hre hrl hS
                          obtain ⟨rn, hrn⟩ : ∃ rn, rn = R.length := ⟨_, rfl⟩
                          obtain ⟨va, vc, rfl⟩ : ∃ va vc, u14 = .slice va rn vc := by
                            obtain ⟨_, ho1, _⟩ := hS.hr
                            obtain ⟨a', c', e⟩ := ownsRow_slice ho1
                            exact ⟨a', c', by rw [e, hrn]⟩
                          have hrn6 : rn ≤ 1000 := by omega
                          have HRNL := hid hrn
                          have HRE := hid hre
                          have HXL := hid hXl
                          have HSS := hid hS
                          have HBZ := hid hbz
                          clear hre hS hbz hgk hks hk1 hk2 hkw hX hR hrn hXl hrow hpp hkb hrl
                          go_wp2_with (go_at_call 123; refine HWO.out.mono ?_; rintro e w4 ⟨v4, b4, rfl, hb4s, ho4, hb4⟩; refine Stop.of ?_)
                          refine Stop.go ?_
                          obtain ⟨xa, xc, rfl⟩ := ownsRow_slice ho4
                          have hba : Below wr.heap.size wr (w4.alloc (.cells #[.slice xa W xc] 33)) := hb4.alloc hb4.size _
                          have h4 := HSS.out.below hba
                          have hu : RowN (Value.slice pa dn pc).ownBlock (w4.alloc (.cells #[.slice xa W xc] 33)) (.slice xa W xc) X := (rowN_own ho4 HXL.out (fun k' hk' => by have := h4.pR k' hk'; have := HSS.out.hR; omega)).keep (KeepN.below ((Below.refl _ _).alloc (Nat.le_refl _) _))
                          obtain ⟨vs, hv1, hv2⟩ := h4.hr
                          have hv1' := hv1
                          rw [← HRNL.out] at hv1'
                          have M1 := hid (show rn + 1 ≤ maxLen by unfold maxLen; omega)
                          have M2 := hid (show (rn + 1) * 24 ≤ 140737488355328 by omega)
                          have M3 := hid h4.hR
                          have H4 := hid h4
                          have HV1 := hid hv1
                          have HV1' := hid hv1'
                          have HV2 := hid hv2
                          have HU := hid hu
                          have HBA := hid (chain HBZ.out hba)
                          clear h4 hv1 hv1' hv2 hu hba ho4 hb4 hb4s
                          go_wp2_with (at_builtin; refine wpList_app _ rfl (.tmp 81) (.tmp 86) 22 rfl wc.heap.size 33 (.slice none 0 0) 1 24 Tryz.underlying22 li_ints rfl Nat.one_pos (.slice va rn vc) rn vs rfl HV1'.out (some ⟨w4.heap.size, 0, none⟩) 1 1 [.slice xa W xc] rfl rfl no_none (one_news w4 _ _) (slice_oneCell _ _ _) M1.out M2.out M3.out ?_; refine Stop.of ?_)
                          refine Stop.go ?_
                          intro a5 c5 w5 own5 g5
                          have h5 := H4.out.push HV1.out HV2.out HU.out g5 (r' := .slice a5 (rn + 1) c5) (by rw [← HRNL.out]; exact own5)
                          rw [← HRE.out] at h5
                          have hb5 : Below wc.heap.size wc w5 := HBA.out.grown g5 M3.out fun k' hk' => (own_type HV1'.out hk').1
                          go_wp2
                          exact ⟨⟨k + 1, by omega, by go_num, h5, hb5⟩, by simp [intOf]; omega⟩
                      · obtain rfl : ln = k := by omega
                        have hall := restT_all (f := f) (a := q) HLN.out.symm
                        rw [hall] at hS
                        have hS2 := hS.drop
                        have HS2 := hid hS2
                        clear hS hS2 hall hbz hkl hk
                        obtain ⟨wq, hwq⟩ : ∃ wq, wq = wr := ⟨_, rfl⟩
                        subst hwq
                        go_wp2
                        go_loopw [91] (fun i wz => ∃ k : Nat, k ≤ dn ∧ i = .int .i64 k ∧ RedS w wc.heap.size wz (.slice none 0 0) (.slice da dn dc) u14 (.slice (some ⟨gp, 0, none⟩) W cp) (.slice pa dn pc) [] (doneT f s.done k) ((s.left.eraseIdx q).map f) P s.piv) (fun i _ => dn - (intOf i).toNat)
                        case atStart => exact ⟨0, Nat.zero_le _, rfl, by rw [doneT_zero]; exact HS2.out⟩
                        case round =>
                          obtain ⟨k, hk, rfl, hS⟩ := hrel
                          by_cases hkl : k < dn
                          · have hks : k < s.done.length := by rw [← HDN.out]; exact hkl
                            obtain ⟨gd, cd, ud, ed, _, _, _, hcd, hrd, _, _⟩ := hS.hd.at (by rw [doneT_len]; exact HDN.out.symm) hkl
                            cases ed
                            rw [doneT_at hks] at hrd
                            have hkw := HBBS.out s.done[k] (List.mem_append_left _ (List.getElem_mem _))
                            obtain ⟨gk, ck, ek, hsk⟩ := hrd.form (by rw [hkw.1]; omega)
                            rw [hkw.1] at ek
                            subst ek
                            have hpp : IntsAt wr (some ⟨gp, 0, none⟩) P := (hS.hq.sp (by rw [HLP.out]; omega)).ints
                            have HWO := hid (r3without_c wr (some ⟨gk, 0, none⟩) (some ⟨gp, 0, none⟩) W ck cp s.done[k] P hkw.1 HLP.out hW hsk.ints hpp hkw.2 HBP.out j hjlt)
                            have hre := doneT_succ (f := f) hks
                            have hXl : (withoutF P j s.done[k]).length = W := by rw [withoutF_len (by rw [hkw.1, HLP.out])]; exact hkw.1
                            rw [HF.out s.done[k]] at hre
                            obtain ⟨X, hX⟩ : ∃ X, X = withoutF P j s.done[k] := ⟨_, rfl⟩
                            rw [← hX] at HWO hre hXl
                            have hki : (k : Int) < (dn : Int) := by omega
                            have HRE := hid hre
                            have HXL := hid hXl
                            have HSS := hid hS
                            clear hre hS hks hkw hX hXl hpp hrd hsk
                            go_wp2_with (go_at_call 123; refine HWO.out.mono ?_; rintro e w4 ⟨v4, b4, rfl, hb4s, ho4, hb4⟩; refine Stop.of ?_)
                            refine Stop.go ?_
                            obtain ⟨xa, xc, rfl⟩ := ownsRow_slice ho4
                            have h4 := HSS.out.below hb4
                            have hu : RowN (Value.slice pa dn pc).ownBlock w4 (.slice xa W xc) X := rowN_own ho4 HXL.out (fun k' hk' => by have := h4.pR k' hk'; have := HSS.out.hR; omega)
                            obtain ⟨g6, c6, v6, e6, hc6, hf6, h6⟩ := h4.store (by rw [doneT_len]; exact HDN.out.symm) hkl hu
                            cases e6
                            rw [← HRE.out] at h6
                            have H6 := hid h6
                            clear h6 h4 hu ho4 hb4 hb4s hcd
                            go_wp2
                            exact ⟨⟨k + 1, by omega, by go_num, H6.out⟩, by simp [intOf]; omega⟩
                          · obtain rfl : dn = k := by omega
                            have hall := doneT_all (f := f) HDN.out.symm
                            rw [hall] at hS
                            obtain ⟨D, hD⟩ : ∃ D, D = s.done.map f := ⟨_, rfl⟩
                            have hDl : D.length = dn := by rw [hD, List.length_map]; exact HDN.out.symm
                            have hst3 := HST2.out
                            rw [← hD] at hst3 hS
                            have h4 := hS.below ((Below.refl _ wr).alloc (Nat.le_refl _) (.cells #[.slice (some ⟨gp, 0, none⟩) W cp] 33))
                            obtain ⟨vs, hv1, hv2⟩ := h4.hd
                            have hv1' := hv1
                            rw [hDl] at hv1'
                            have hpl := HPLS.out
                            rw [← HDN.out] at hpl
                            have HPL2 := hid hpl
                            have M1 := hid (show dn + 1 ≤ maxLen by unfold maxLen; omega)
                            have M2 := hid (show (dn + 1) * 24 ≤ 140737488355328 by omega)
                            have M2' := hid (show (dn + 1) * 8 ≤ 140737488355328 by omega)
                            have M3 := hid (Nat.le_trans h4.hw h4.hR)
                            have H4 := hid h4
                            have HV1 := hid hv1
                            have HV1' := hid hv1'
                            have HV2 := hid hv2
                            have HDL := hid hDl
                            have HST3 := hid hst3
                            clear h4 hv1 hv1' hv2 hDl hst3 hD hall hS hpl hk hkl
                            go_wp2_with (at_builtin; refine wpList_app _ rfl (.tmp 105) (.tmp 107) 22 rfl w.heap.size 33 (.slice none 0 0) 1 24 Tryz.underlying22 li_ints rfl Nat.one_pos (.slice da dn dc) dn vs rfl HV1'.out (some ⟨wr.heap.size, 0, none⟩) 1 1 [.slice (some ⟨gp, 0, none⟩) W cp] rfl rfl no_none (one_news wr _ _) (slice_oneCell _ _ _) M1.out M2.out M3.out ?_; refine Stop.of ?_)
                            refine Stop.go ?_
                            intro a5 c5 w5 own5 g5
                            obtain ⟨e1, e2, e3, e4⟩ := H4.out.onto HV1.out HV2.out g5 (d' := .slice a5 (dn + 1) c5) (by rw [HDL.out]; exact own5)
                            have hal : Below w5.heap.size w5 (w5.alloc (.cells #[.int .i64 j] 3)) := (Below.refl _ _).alloc (Nat.le_refl _) _
                            have E1 := hid (e1.below hal)
                            have E2 := hid (e2.below hal)
                            have E3 := hid (own_below e3 hal)
                            have E4 := hid (chain e4 hal)
                            have e3' := E3.out
                            rw [HPL2.out] at e3'
                            have E3' := hid e3'
                            have M4 := hid E4.out.size
                            clear e1 e2 e3 e4 e3' hal own5 g5
                            go_wp2_with (at_builtin; refine wpList_app_at _ rfl (.tmp 109) (.tmp 111) 33 rfl w.heap.size 3 (.int .i64 0) 1 8 Tryz.underlying33 li_int rfl Nat.one_pos (.slice pa dn pc) dn _ rfl E3'.out ⟨w5.heap.size, 0, none⟩ 1 1 [.int .i64 j] rfl rfl (one_news w5 _ _ _ rfl) (li_one _) M1.out M2'.out M4.out ?_; refine Stop.of ?_)
                            refine Stop.go ?_
                            intro a6 c6 w6 own6 g6 hat6
                            have hfin := red_end E1.out E2.out E3.out E4.out g6 (by rw [World.size_alloc]; exact hat6) (by rw [HPL2.out]; exact own6)
                            have HFIN := hid hfin
                            clear hfin own6 g6 hat6
                            go_wp2
                            refine ⟨⟨j + 1, by omega, by go_num, ?_⟩, by simp [intOf]; omega⟩
                            unfold RedI
                            rw [HSUCC.out, HST3.out]
                            exact HFIN.out
end Go.Proofs.YtkmjeegnijohmaaGreat

namespace Go.Proofs.YtkmjeegnijohmaaGreat
set_option linter.unusedVariables false

theorem timesR_snoc (R : List (List Int)) (p : Nat) : ∀ (J : List Nat) (k : Nat) (t : Int), timesR R (J ++ [p]) k t =
    (timesR R J k t).tdiv (Int.gcd (timesR R J k t) (vec (R[k + J.length]?.getD []) p) : Nat) * vec (R[k + J.length]?.getD []) p
  | [], k, t => rfl
  | q :: J, k, t => by
    show timesR R (J ++ [p]) (k + 1) _ = _
    rw [timesR_snoc R p J (k + 1), show k + 1 + J.length = k + (q :: J).length by simp; omega]
    rfl
def kernRTo (R : List (List Int)) (J : List Nat) (n t : Nat) : List (List Int) := ((List.range t).filter (fun f => !J.contains f)).map (kerR R J n)
theorem kernRTo_in {R : List (List Int)} {J : List Nat} {n t : Nat} (h : J.contains t = true) : kernRTo R J n (t + 1) = kernRTo R J n t := by
  unfold kernRTo; rw [List.range_succ, List.filter_append]; simp at h; simp [h]
theorem kernRTo_out {R : List (List Int)} {J : List Nat} {n t : Nat} (h : J.contains t = false) : kernRTo R J n (t + 1) = kernRTo R J n t ++ [kerR R J n t] := by
  unfold kernRTo; rw [List.range_succ, List.filter_append]; simp at h; simp [h]
theorem kernRTo_all (R : List (List Int)) (J : List Nat) (n : Nat) : kernRTo R J n n = kernR R J n := rfl
theorem kernRTo_le (R : List (List Int)) (J : List Nat) (n t : Nat) : (kernRTo R J n t).length ≤ t := by
  unfold kernRTo; rw [List.length_map]
  have := List.length_filter_le (fun f => !J.contains f) (List.range t)
  rwa [List.length_range] at this
theorem rawR_len (R : List (List Int)) (J : List Nat) (n f : Nat) : (rawR R J n f).length = n := by unfold rawR; rw [fillF_len]; simp
theorem kerR_len (R : List (List Int)) (J : List Nat) (n f : Nat) : (kerR R J n f).length = n := by unfold kerR; rw [primF_eq, shortF_len, rawR_len]
theorem fillF_all {P : Int → Prop} {v : Nat → Nat → Int} (hv : ∀ k p, P (v k p)) : ∀ (J : List Nat) (k : Nat) (h : List Int), (∀ x ∈ h, P x) → ∀ x ∈ fillF v J k h, P x
  | [], _, h, hh, x, hx => hh x hx
  | p :: J, k, h, hh, x, hx => fillF_all hv J (k + 1) _ (fun y hy => by
      rcases List.mem_or_eq_of_mem_set hy with h1 | rfl
      · exact hh y h1
      · exact hv _ _) x hx

structure RefK (R : List (List Int)) (J : List Nat) (n : Nat) : Prop where
  len : R.length = J.length
  le6 : J.length ≤ 6
  wid : ∀ r ∈ R, r.length = n
  bnd : ∀ i c : Nat, -720 ≤ vec (R[i]?.getD []) c ∧ vec (R[i]?.getD []) c ≤ 720
  pv : ∀ (i : Nat) (hi : i < J.length), 0 < vec (R[i]?.getD []) J[i] ∧ J[i] < n
  times : ∀ t : Nat, t ≤ J.length → 0 < timesR R (J.take t) 0 1 ∧ timesR R (J.take t) 0 1 ≤ 720
theorem refK {C : List (List Int)} {n : Nat} (h : MaskOk C n) : RefK (rRed C n).done (rRed C n).piv n ∧ kernP (RP C n) (JP C n) n = kernR (rRed C n).done (rRed C n).piv n := by
  have hone : ∀ r ∈ C, ∀ c, c < n → -1 ≤ vec r c ∧ vec r c ≤ 1 := fun r hr c _ => h.one r hr c
  obtain ⟨d, d1, d2, hk⟩ := pRed_ok (n := n) h.wid h.le6 hone
  obtain ⟨e1, e2⟩ := red_same h.wid hone (Nat.le_refl n) (fun q _ _ c h1 h2 => by omega)
  have hKl : (JP C n).length ≤ (RP C n).length := by rw [pRed_len]; exact (h.inv n).K_le
  refine ⟨?_, kernel_same h.wid h.le6 hone⟩
  rw [e2, ← e1]
  have hget : ∀ i, i < (JP C n).length → ((RP C n).take (JP C n).length)[i]?.getD [] = (RP C n)[i]?.getD [] := fun i hi => by rw [List.getElem?_take_of_lt hi]
  have hpiv : ∀ i, i < (JP C n).length → 0 < vec (((RP C n).take (JP C n).length)[i]?.getD []) (jf (JP C n) i) ∧ vec (((RP C n).take (JP C n).length)[i]?.getD []) (jf (JP C n) i) ∣ (d : Int) := fun i hi => by
    rw [hget i hi]; exact hk.piv i hi
  refine ⟨by rw [List.length_take]; exact Nat.min_eq_left hKl, Nat.le_trans (h.inv n).K_le h.le6, fun r hr => (h.bnd (Nat.le_refl n) r (List.mem_of_mem_take hr)).1, fun i c => ?_, fun i hi => ?_, fun t ht => ?_⟩
  · rcases Nat.lt_or_ge i (JP C n).length with hi | hi
    · rw [hget i hi]; exact h.rp_le i c
    · rw [List.getElem?_eq_none (by rw [List.length_take]; exact Nat.le_trans (Nat.min_le_left _ _) hi)]; simp [vec]
  · have := h.pivx hi
    rw [hget i hi]
    exact ⟨this.1, this.2.2⟩
  · obtain ⟨a, b, _, _⟩ := timesR_facts (R := (RP C n).take (JP C n).length) (d := d) ((JP C n).take t) 0 1 (by decide) (Int.one_dvd _) (fun i hi => by
      rw [List.length_take] at hi
      have h1 : i < (JP C n).length := by omega
      have := hpiv i h1
      rw [Nat.zero_add]
      have e : jf ((JP C n).take t) i = jf (JP C n) i := by unfold jf; rw [List.getElem?_take_of_lt (by omega)]
      rw [e]; exact this)
    have h9 := Int.le_of_dvd (by omega) b
    exact ⟨a, Int.le_trans h9 (by omega)⟩
theorem valR_le {R : List (List Int)} {J : List Nat} {n : Nat} (h : RefK R J n) {f : Nat} {t : Int} (h0 : 0 < t) (h1 : t ≤ 720) (k p : Nat) : -518400 ≤ valR R f t k p ∧ valR R f t k p ≤ 518400 := by
  unfold valR
  have h2 := h.bnd k f
  have h3 : (t.tdiv (vec (R[k]?.getD []) p)).natAbs ≤ 720 := by
    rw [Int.natAbs_tdiv]
    exact Nat.le_trans (Nat.div_le_self _ _) (by omega)
  have h4 : (-(vec (R[k]?.getD []) f) * t.tdiv (vec (R[k]?.getD []) p)).natAbs ≤ 720 * 720 := by
    rw [Int.natAbs_mul]
    exact Nat.mul_le_mul (by omega) h3
  omega
theorem rawR_le {R : List (List Int)} {J : List Nat} {n : Nat} (h : RefK R J n) (f : Nat) : ∀ x ∈ rawR R J n f, -518400 ≤ x ∧ x ≤ 518400 := by
  obtain ⟨h0, h1⟩ := h.times J.length (Nat.le_refl _)
  rw [List.take_length] at h0 h1
  refine fillF_all (P := fun x => -518400 ≤ x ∧ x ≤ 518400) (fun k p => valR_le h h0 h1 k p) J 0 _ fun x hx => ?_
  rcases List.mem_or_eq_of_mem_set hx with h2 | rfl
  · rw [(List.mem_replicate.1 h2).2]; decide
  · omega
theorem refB {C : List (List Int)} {n : Nat} (h : MaskOk C n) : ∀ t, t ≤ n → ∀ r ∈ (rRed C t).done ++ (rRed C t).left, r.length = n ∧ ∀ x ∈ r, -(720 : Int) ≤ x ∧ x ≤ 720 := by
  intro t ht
  have := rRed_le (n := n) (Y := 1) h.wid h.le6 (fun r hr c _ => h.one r hr c) (fun r hr => mem_vec (P := fun x => -((1 : Nat) : Int) ≤ x ∧ x ≤ ((1 : Nat) : Int)) fun c => by have := h.one r hr c; omega) ht
  intro r hr
  obtain ⟨h1, h2⟩ := this r hr
  exact ⟨h1, fun x hx => by have := h2 x hx; omega⟩
theorem ref_lens {C : List (List Int)} {n : Nat} (h : ∀ r ∈ C, r.length = n) (t : Nat) : (rRed C t).done.length + (rRed C t).left.length = C.length ∧ (rRed C t).piv.length = (rRed C t).done.length :=
  ⟨rRed_len C h t, (rRed_inv C h t).2.symm⟩
end Go.Proofs.YtkmjeegnijohmaaGreat

namespace Go.Proofs.YtkmjeegnijohmaaGreat
open Go.RowKit
set_option linter.unusedVariables false

theorem row_cellsA {W : World} {a : Option Addr} {R : List (List Int)} (h : RowsAt W a R) {t n : Nat} (ht : t < R.length) (hw : ∀ r ∈ R, r.length = n) (hn : 1 ≤ n) :
    ∃ b off rb ro rc, a = some ⟨b, off, none⟩ ∧ W.cell? ⟨b, off + t, none⟩ = some (.slice (some ⟨rb, ro, none⟩) n rc) ∧ ∀ c, c < n → W.cell? ⟨rb, ro + c, none⟩ = some (.int .i64 (vec (R[t]?.getD []) c)) := by
  obtain ⟨b, off, ra, n', rc, e, hlt, h0, hn', hm, hi⟩ := h t ht
  have hl := hw _ (List.getElem_mem ht)
  obtain ⟨rb, ro, rfl, _, _⟩ := hi 0 (by omega)
  refine ⟨b, off, rb, ro, rc, e, ?_, fun c hc => ?_⟩
  · rw [h0, ← hn', hl]
  · obtain ⟨rb', ro', e, _, hx⟩ := hi c (by omega)
    cases e
    rw [hx, List.getElem?_eq_getElem ht]; rfl
theorem castL_len (J : List Nat) : (castL J).length = J.length := by simp [castL]
theorem castL_get {J : List Nat} {t : Nat} (ht : t < J.length) : (castL J)[t]?.getD 0 = ((J[t] : Nat) : Int) := by unfold castL; rw [List.getElem?_map, List.getElem?_eq_getElem ht]; rfl
theorem free_take {J : List Nat} {t : Nat} (ht : t < J.length) (f : Nat) : (!(J.take (t + 1)).contains f) = ((!(J.take t).contains f) && decide (((J[t] : Nat) : Int) ≠ (f : Int))) := by
  rw [List.take_succ_eq_append_getElem ht]
  have e : ∀ (l : List Nat) (y : Nat), (l ++ [y]).contains f = (l.contains f || decide (f = y)) := by
    intro l y
    rw [Bool.eq_iff_iff]; simp
  rw [e, Bool.not_or]
  congr 1
  by_cases h : f = J[t]
  · simp [h]
  · have : ¬ (((J[t] : Nat) : Int) = (f : Int)) := by omega
    simp [h, this]

set_option maxRecDepth 100000 in
set_option maxHeartbeats 8000000 in
theorem r3kernel_c (w : World) (a : Option Addr) (n cap : Nat) (C : List (List Int)) (hn : C.length = n) (hn1 : 1 ≤ n) (k : Nat) (hk1 : 1 ≤ k) (hk9 : k ≤ 1000) (hC : MaskOk C k) (H : RowsAt w a C) :
    Calls Tryz.prog 99 #[.slice a n cap] w fun e w' => ∃ v base, e = .returned v ∧ w.heap.size ≤ base ∧ TabS w' base v (kernP (RP C k) (JP C k) k) ∧ Below w.heap.size w w' := by
  have hn6 : n ≤ 6 := by rw [← hn]; exact hC.le6
  have hB := refB hC
  have HRd := hid (r3reduced_c w a n cap C k hn (by omega) H hC.wid hk9 (fun r hr => mem_vec (P := fun x => -((4611686018427387904 : Nat) : Int) ≤ x ∧ x ≤ ((4611686018427387904 : Nat) : Int)) fun c => by have := hC.one r hr c; omega)
    (fun t ht r hr => ⟨(hB t ht r hr).1, fun x hx => by have := (hB t ht r hr).2 x hx; omega⟩) (fun t => by rw [(ref_lens hC.wid t).1, hn]) (fun t => (ref_lens hC.wid t).2))
  obtain ⟨hRK, hkern⟩ := refK hC
  rw [hkern]
  obtain ⟨b0, off0, ra0, rn0, rc0, rfl, hbs0, hq0, hrn0, hrm0, hri0⟩ := H 0 (by omega)
  obtain rfl : rn0 = k := by rw [← hrn0]; exact hC.wid _ (List.getElem_mem _)
  have hraw := rawR_le hRK
  obtain ⟨R, hR⟩ : ∃ R, R = (rRed C rn0).done := ⟨_, rfl⟩
  obtain ⟨J, hJ⟩ : ∃ R, R = (rRed C rn0).piv := ⟨_, rfl⟩
  rw [← hR, ← hJ] at HRd hRK hraw ⊢
  obtain ⟨K, hK⟩ : ∃ K, K = J.length := ⟨_, rfl⟩
  rw [← hK] at HRd
  have hRl : R.length = K := by rw [hRK.len, hK]
  have hK6 : K ≤ 6 := by rw [hK]; exact hRK.le6
  have HKJ := hid hK
  have HRK := hid hRK
  have HRAW := hid hraw
  have HRL := hid hRl
  have hc0 : w.cell? ⟨b0, off0, none⟩ = some (.slice ra0 rn0 rc0) := hq0
  have hni : (0 : Int) < (n : Int) := by omega
  clear hB hn H hkern hR hJ hK hRK hraw hRl hrn0 hrm0 hri0 hC hq0
  go_enter Tryz.func99, Tryz.ntmps99
  go_wp2_with (go_at_call 111; refine HRd.out.mono ?_; rintro e w1 ⟨vD, vP, rfl, hT1, hP1, hb1⟩; refine Stop.of ?_)
  refine Stop.go ?_
  clear HRd
  obtain ⟨pa, pc, rfl, hPI, hPm⟩ := ints_of_own hP1 (by rw [castL_len, HKJ.out])
  obtain ⟨da, dc, rfl⟩ : ∃ da dc, vD = .slice da K dc := by
    obtain ⟨_, ho1, _⟩ := hT1
    obtain ⟨a', c', e⟩ := ownsRow_slice ho1
    exact ⟨a', c', by rw [e, HRL.out]⟩
  have hRA := hT1.rows HRL.out (fun r hr => by rw [HRK.out.wid r hr]; unfold maxLen; omega)
  have hc1 : w1.cell? ⟨b0, off0, none⟩ = some (.slice ra0 rn0 rc0) := (hb1.cell (p := ⟨b0, off0, none⟩) hbs0).trans hc0
  have hb0s : b0 < w1.heap.size := Nat.lt_of_lt_of_le hbs0 hb1.size
  have HPI := hid hPI
  have HRA := hid hRA
  have HBW := hid hb1
  have hsz : w.heap.size ≤ w1.heap.size := hb1.size
  clear hPI hRA hP1 hT1 hb1 hc0 hbs0
  go_wp2
  go_loopw [5, 25] (fun v i wr => ∃ f : Nat, f ≤ rn0 ∧ i = .int .i64 f ∧ TabS wr w1.heap.size v (kernRTo R J rn0 f) ∧ Below w1.heap.size w1 wr) (fun _ i _ => rn0 - (intOf i).toNat)
  case atStart => exact ⟨0, Nat.zero_le _, rfl, TabS.nil _ _, Below.refl _ _⟩
  case round =>
    obtain ⟨f, hf, rfl, ho, hbk⟩ := hrel
    obtain ⟨wo, hwo⟩ : ∃ wo, wo = wr := ⟨_, rfl⟩
    subst hwo
    by_cases hlt : f < rn0
    · have HO := hid ho
      have HBK := hid hbk
      have HJO := hid (HPI.out.below hbk)
      have HRO := hid (HRA.out.below hbk)
      have hcO : wo.cell? ⟨b0, off0, none⟩ = some (.slice ra0 rn0 rc0) := (hbk.cell (p := ⟨b0, off0, none⟩) hb0s).trans hc1
      have hbOs : b0 < wo.heap.size := Nat.lt_of_lt_of_le hb0s hbk.size
      clear ho hbk
      go_wp2
      go_loopw [7, 30] (fun v i wr => ∃ t : Nat, t ≤ K ∧ i = .int .i64 t ∧ v = .bool (!(J.take t).contains f) ∧ wr = wo) (fun _ i _ => K - (intOf i).toNat)
      case atStart => exact ⟨0, Nat.zero_le _, rfl, rfl, rfl⟩
      case round =>
        obtain ⟨t, ht, rfl, rfl, hww⟩ := hrel
        subst hww
        by_cases hltt : t < K
        · have htJ : t < J.length := by rw [← HKJ.out]; exact hltt
          obtain ⟨jb, jo, rfl, _, hjc⟩ := HJO.out t (by rw [castL_len]; exact htJ)
          rw [castL_get htJ] at hjc
          have hft := free_take htJ f
          obtain ⟨p, hp⟩ : ∃ p, p = J[t] := ⟨_, rfl⟩
          rw [← hp] at hjc hft
          obtain ⟨fr, hfr⟩ : ∃ fr, fr = !(J.take t).contains f := ⟨_, rfl⟩
          rw [← hfr] at hft ⊢
          have HFT := hid hft
          clear hp hfr hft htJ
          cases fr
          · go_wp2
            exact ⟨⟨t + 1, by omega, by go_num, by rw [HFT.out]; rfl, by first | trivial | rfl⟩, by simp [intOf]; omega⟩
          · by_cases hpf : (p : Int) = (f : Int)
            · have hd : ((p : Int) != (f : Int)) = false := by simp [hpf]
              have HPF := hid hpf
              clear hpf
              go_wp2
              exact ⟨⟨t + 1, by omega, by go_num, by rw [HFT.out, HPF.out]; simp, by first | trivial | rfl⟩, by simp [intOf]; omega⟩
            · have hd : ((p : Int) != (f : Int)) = true := by simpa using hpf
              have HPF := hid hpf
              clear hpf
              go_wp2
              exact ⟨⟨t + 1, by omega, by go_num, by rw [HFT.out]; simp [HPF.out], by first | trivial | rfl⟩, by simp [intOf]; omega⟩
        · obtain rfl : K = t := by omega
          have e : J.take K = J := List.take_of_length_le (by rw [HKJ.out]; exact Nat.le_refl _)
          rw [e]
          cases hfJ : J.contains f
          · have HFN := hid hfJ
            rw [show (!false) = true from rfl]
            clear e hfJ hltt
            obtain ⟨wo, hwo⟩ : ∃ wo, wo = wr := ⟨_, rfl⟩
            subst hwo
            go_wp2
            go_loopw [10, 45] (fun T i wr => ∃ t : Nat, t ≤ K ∧ i = .int .i64 t ∧ T = .int .i64 (timesR R (J.take t) 0 1) ∧ Below wo.heap.size wo wr) (fun _ i _ => K - (intOf i).toNat)
            case atStart => exact ⟨0, Nat.zero_le _, rfl, rfl, Below.refl _ _⟩
            case round =>
              obtain ⟨t, ht, rfl, rfl, hbt⟩ := hrel
              by_cases hltt : t < K
              · have htJ : t < J.length := by rw [← HKJ.out]; exact hltt
                obtain ⟨jb, jo, rfl, _, hjc⟩ := (HJO.out.below hbt) t (by rw [castL_len]; exact htJ)
                obtain ⟨db, dof, rb, ro, rc, rfl, hh, hcs⟩ := row_cellsA (HRO.out.below hbt) (t := t) (by rw [HRL.out]; exact hltt) HRK.out.wid hk1
                have hp0 := HRK.out.pv t htJ
                have hsn := timesR_snoc R J[t] (J.take t) 0 1
                rw [← List.take_succ_eq_append_getElem htJ, List.length_take, Nat.zero_add, show min t J.length = t by omega] at hsn
                obtain ⟨hT0, hT1⟩ := HRK.out.times t (by rw [← HKJ.out]; exact ht)
                obtain ⟨hT2, hT3⟩ := HRK.out.times (t + 1) htJ
                rw [castL_get htJ] at hjc
                have hx2 := (HRK.out.bnd t J[t]).2
                obtain ⟨p, hp⟩ : ∃ p, p = J[t] := ⟨_, rfl⟩
                rw [← hp] at hp0 hsn hjc hx2
                have c1 := hcs p hp0.2
                obtain ⟨x, hx⟩ : ∃ x, x = vec (R[t]?.getD []) p := ⟨_, rfl⟩
                rw [← hx] at c1 hp0 hsn hx2
                obtain ⟨hx1, hpk⟩ := hp0
                obtain ⟨T, hT⟩ : ∃ T, T = timesR R (J.take t) 0 1 := ⟨_, rfl⟩
                rw [← hT] at hT0 hT1 hsn ⊢
                rw [hsn] at hT2 hT3
                have HD1 := hid (fun (W : World) => r3divisor_c W T x (by omega) (by omega))
                have hg0 : 0 < ((Int.gcd T x : Nat) : Int) := by
                  have : 0 < Int.gcd T x := Int.gcd_pos_of_ne_zero_left _ (by omega)
                  omega
                obtain ⟨g, hg⟩ : ∃ g : Int, g = (Int.gcd T x : Nat) := ⟨_, rfl⟩
                rw [← hg] at HD1 hg0 hsn hT2 hT3
                have HSN := hid hsn
                have hgz : ¬ (g = 0) := by omega
                have htd := tdiv_bnd (show 1 ≤ g by omega) (show -(720 : Int) ≤ T ∧ T ≤ 720 by omega)
                have hw1 : IntKind.i64.wrap (T.tdiv g) = T.tdiv g := IntWalk.i64_in _ (by omega)
                have hw2 : IntKind.i64.wrap (T.tdiv g * x) = T.tdiv g * x := IntWalk.i64_in _ (by omega)
                have i1 : (0 : Int) ≤ (t : Int) := by omega
                have i2 : (t : Int) < (K : Int) := by omega
                have i3 : (0 : Int) ≤ (p : Int) := by omega
                have i4 : (p : Int) < (rn0 : Int) := by omega
                have HBT := hid hbt
                clear hp hx hT hsn hg hcs htJ hbt
                go_wp2
                go_quiet ((go_at_call 112; exact Calls.quiet_of (HD1.out _)))
                go_wp2
                exact ⟨⟨t + 1, by omega, by go_num, by rw [HSN.out], below_drewN HBT.out _⟩, by simp [intOf]; omega⟩
              · obtain rfl : K = t := by omega
                have e : J.take K = J := List.take_of_length_le (by rw [HKJ.out]; exact Nat.le_refl _)
                obtain ⟨hT0, hT1⟩ := HRK.out.times K (by rw [← HKJ.out]; exact Nat.le_refl _)
                rw [e] at hT0 hT1 ⊢
                obtain ⟨T, hT⟩ : ∃ T, T = timesR R J 0 1 := ⟨_, rfl⟩
                rw [← hT] at hT0 hT1 ⊢
                have HTT := hid hT
                have HB5 := hid hbt
                obtain ⟨w5, hw5⟩ : ∃ w5, w5 = wr := ⟨_, rfl⟩
                subst hw5
                have hmk : ∀ w, (Instr.makeSlice 33 (.int .i64 (rn0 : Int)) (.int .i64 (rn0 : Int))).run Tryz.prog w = .ok (.slice (some ⟨w.heap.size, 0, none⟩) rn0 rn0) (w.alloc (.cells (madeCells #[.int .i64 0] rn0) 3)) :=
                  fun w => run_make_row' 33 3 (.int .i64 0) 8 Tryz.underlying33 li_int rfl .i64 .i64 rn0 (by omega) (by omega) w
                obtain ⟨h0, hh0⟩ : ∃ h0, h0 = (List.replicate rn0 (0 : Int)).set f T := ⟨_, rfl⟩
                have hh0l : h0.length = rn0 := by rw [hh0]; simp
                obtain ⟨w7, hw7⟩ : ∃ w7, w7 = w5.alloc (.cells ((madeCells #[.int .i64 0] rn0).setIfInBounds f (.int .i64 T)) 3) := ⟨_, rfl⟩
                have hr7 : SpRow w7 w5.heap.size h0 := by rw [hw7, hh0]; exact sp_made_set w5 rn0 f T
                have hb7 : Below w5.heap.size w5 w7 := by rw [hw7]; exact (Below.refl _ _).alloc (Nat.le_refl _) _
                have hs7 : w7.heap.size = w5.heap.size + 1 := by rw [hw7]; simp
                have hc5 : w5.cell? ⟨b0, off0, none⟩ = some (.slice ra0 rn0 rc0) := (hbt.cell (p := ⟨b0, off0, none⟩) hbOs).trans hcO
                have i5 : (0 : Int) ≤ (f : Int) := by omega
                have i6 : (f : Int) < (rn0 : Int) := by omega
                have HSET6 := hid hr7
                have HH0 := hid hh0
                have HW7 := hid hw7
                have HB7 := hid hb7
                have HL0 := hid hh0l
                clear e hT hbt hh0 hr7 hb7 hw7 hh0l
                have hmsz : (madeCells #[Value.int .i64 0] rn0).size = rn0 := by rw [size_madeCells]
                go_wp2
                rw [← HW7.out]
                clear hmk hmsz
                go_loopw [81] (fun i wr => ∃ s : Nat, s ≤ K ∧ i = .int .i64 s ∧ SpRow wr w5.heap.size (fillF (valR R f T) (J.take s) 0 h0) ∧ Keep (fun q => q ≠ w5.heap.size) w7 wr) (fun i _ => K - (intOf i).toNat)
                case atStart => exact ⟨0, Nat.zero_le _, rfl, HSET6.out, Keep.refl _ _⟩
                case round =>
                  obtain ⟨s, hs, rfl, hr, hkp⟩ := hrel
                  have hb57 : Below w5.heap.size w5 wr := hkp.below HB7.out (by omega) (fun q hq => by omega)
                  have hbo := chain HB5.out hb57
                  by_cases hlts : s < K
                  · have htJ : s < J.length := by rw [← HKJ.out]; exact hlts
                    obtain ⟨jb, jo, rfl, _, hjc⟩ := (HJO.out.below hbo) s (by rw [castL_len]; exact htJ)
                    obtain ⟨db, dof, rb, ro, rc, rfl, hh, hcs⟩ := row_cellsA (HRO.out.below hbo) (t := s) (by rw [HRL.out]; exact hlts) HRK.out.wid hk1
                    have hp0 := HRK.out.pv s htJ
                    have hsn := fillF_snoc (valR R f T) J[s] (J.take s) 0 h0
                    rw [← List.take_succ_eq_append_getElem htJ, List.length_take, Nat.zero_add, show min s J.length = s by omega] at hsn
                    rw [castL_get htJ] at hjc
                    obtain ⟨p, hp⟩ : ∃ p, p = J[s] := ⟨_, rfl⟩
                    rw [← hp] at hp0 hsn hjc
                    have c1 := hcs p hp0.2
                    have c2 := hcs f hlt
                    have hxb := HRK.out.bnd s f
                    have hval : valR R f T s p = -(vec (R[s]?.getD []) f) * T.tdiv (vec (R[s]?.getD []) p) := rfl
                    have hvb := valR_le HRK.out (f := f) hT0 hT1 s p
                    obtain ⟨x, hx⟩ : ∃ x, x = vec (R[s]?.getD []) p := ⟨_, rfl⟩
                    obtain ⟨y, hy⟩ : ∃ x, x = vec (R[s]?.getD []) f := ⟨_, rfl⟩
                    rw [← hx] at c1 hp0 hval
                    rw [← hy] at c2 hxb hval
                    rw [hval] at hsn hvb
                    obtain ⟨hx1, hpk⟩ := hp0
                    have hlenF : (fillF (valR R f T) (J.take s) 0 h0).length = rn0 := by rw [fillF_len, HL0.out]
                    have c3 := hr.cell (j := p) (by rw [hlenF]; exact hpk)
                    obtain ⟨z3, hz3⟩ : ∃ z, z = (fillF (valR R f T) (J.take s) 0 h0)[p]?.getD 0 := ⟨_, rfl⟩
                    rw [← hz3] at c3
                    have c4 := hr.frozen p
                    have HSET := hid (fun (X : World) (hX : X.heap[w5.heap.size]? = wr.heap[w5.heap.size]?) v => (hr.keep hX).set p (by rw [hlenF]; exact hpk) v)
                    have hgs := hr.lt
                    have HSN := hid hsn
                    have HKP := hid hkp
                    have td := tdiv_bnd (show 1 ≤ x by omega) (show -(720 : Int) ≤ T ∧ T ≤ 720 by omega)
                    have wn : IntKind.i64.wrap (-y) = -y := IntWalk.i64_in _ (by omega)
                    have wq : IntKind.i64.wrap (T.tdiv x) = T.tdiv x := IntWalk.i64_in _ (by omega)
                    have wm : IntKind.i64.wrap (-y * T.tdiv x) = -y * T.tdiv x := IntWalk.i64_in _ (by omega)
                    have hxz : ¬ (x = 0) := by omega
                    have i1 : (0 : Int) ≤ (s : Int) := by omega
                    have i2 : (s : Int) < (K : Int) := by omega
                    have i3 : (0 : Int) ≤ (p : Int) := by omega
                    have i4 : (p : Int) < (rn0 : Int) := by omega
                    clear hp hx hy hsn hcs htJ hval hlenF hz3 hr hkp hb57 hbo td hvb
                    go_wp2
                    go_still_tail 21, (by kernel_rfl)
                    change wpList _ _ _ _ _ wr.drew
                    go_wp2
                    refine ⟨⟨s + 1, by omega, by go_num, ?_, (HKP.out.drewN 1).trans (Keep.set wr.drew w5.heap.size p _)⟩, by simp [intOf]; omega⟩
                    rw [HSN.out]
                    exact HSET.out wr.drew rfl _
                  · obtain rfl : K = s := by omega
                    have e : J.take K = J := List.take_of_length_le (by rw [HKJ.out]; exact Nat.le_refl _)
                    rw [e] at hr
                    have hraw : fillF (valR R f T) J 0 h0 = rawR R J rn0 f := by unfold rawR; rw [HH0.out, HTT.out]
                    rw [hraw] at hr
                    have hbR : BndL 4611686018427387904 (rawR R J rn0 f) := fun x hx => by
                      have := HRAW.out f x hx
                      omega
                    have HSH := hid (r3primitive_c wr (some ⟨w5.heap.size, 0, none⟩) rn0 rn0 (rawR R J rn0 f) (rawR_len R J rn0 f) hk9 hr.ints hbR)
                    have HBO := hid hbo
                    clear e hraw hr hbR hkp hb57 hbo
                    go_wp2_with (go_at_call 113; refine HSH.out.mono ?_; rintro e w8 ⟨v8, rfl, ho8, hb8⟩; refine Stop.of ?_)
                    refine Stop.go ?_
                    have hbo8 : Below wo.heap.size wo w8 := chain HBO.out hb8
                    obtain ⟨X, hX⟩ : ∃ X, X = kerR R J rn0 f := ⟨_, rfl⟩
                    have hXs : primF (rawR R J rn0 f) = X := hX.symm
                    have hXl : X.length = rn0 := by rw [hX, kerR_len]
                    rw [hXs] at ho8
                    obtain ⟨xa, xc, rfl⟩ := ownsRow_slice ho8
                    have hrs := rowS_own ho8 hXl
                    have hkt := kernRTo_out (R := R) (n := rn0) HFN.out
                    rw [← hX] at hkt
                    have hle := kernRTo_le R J rn0 f
                    obtain ⟨Kt, hKt⟩ : ∃ Kt, Kt = kernRTo R J rn0 f := ⟨_, rfl⟩
                    have HO' := HO.out
                    rw [← hKt] at hkt hle HO'
                    obtain ⟨vs, ho1, ho2⟩ := HO'
                    obtain ⟨m, hm⟩ : ∃ m, m = Kt.length := ⟨_, rfl⟩
                    have ho1' := ho1
                    rw [← hm] at ho1' hle
                    obtain ⟨va, vc, rfl⟩ := ownsRow_slice ho1'
                    have hb2a : Below wo.heap.size wo (w8.alloc (.cells #[.slice xa rn0 xc] 33)) := hbo8.alloc hbo8.size _
                    have M1 := hid (show m + 1 ≤ maxLen by unfold maxLen; omega)
                    have M2 := hid (show (m + 1) * 24 ≤ 140737488355328 by omega)
                    have M3 := hid (Nat.le_trans HBK.out.size hb2a.size)
                    have HO2' := hid (own_below ho1' hb2a)
                    have HO1 := hid ho1
                    have HO2 := hid ho2
                    have HRS := hid (hrs.below ((Below.refl _ w8).alloc (Nat.le_refl _) (.cells #[.slice xa rn0 xc] 33)))
                    have HB2' := hid hb2a
                    have HML := hid hm
                    have HKT := hid hkt
                    clear hb2a ho1 ho1' ho2 hX hXs hXl hkt hle hKt hm hbo8 ho8 hb8 hrs
                    go_wp2_with (at_builtin; refine wpList_app _ rfl (.tmp 108) (.tmp 111) 22 rfl w1.heap.size 33 (.slice none 0 0) 1 24 Tryz.underlying22 li_ints rfl Nat.one_pos (.slice va m vc) m vs rfl HO2'.out (some ⟨w8.heap.size, 0, none⟩) 1 1 [.slice xa rn0 xc] rfl rfl no_none (one_news w8 _ _) (slice_oneCell _ _ _) M1.out M2.out M3.out ?_; refine Stop.of ?_)
                    refine Stop.go ?_
                    intro a5 c5 w9 own5 g5
                    have hsn9 : TabS w9 w1.heap.size (.slice a5 (m + 1) c5) (Kt ++ [X]) := TabS.snoc HO1.out HO2.out HB2'.out HRS.out g5 (by rw [← HML.out]; exact own5)
                    have hB9 : Below w1.heap.size w1 w9 := (HBK.out.trans (HB2'.out.mono HBK.out.size)).grown g5 M3.out (fun q hq => (HO2'.out.lt q hq).1)
                    rw [← HKT.out] at hsn9
                    go_wp2
                    exact ⟨⟨f + 1, by omega, by go_num, hsn9, hB9⟩, by simp [intOf]; omega⟩
          · have hkt := kernRTo_in (R := R) (n := rn0) hfJ
            have HKT := hid hkt
            clear e hfJ hkt
            go_wp2
            exact ⟨⟨f + 1, by omega, by go_num, by rw [HKT.out]; exact HO.out, HBK.out⟩, by simp [intOf]; omega⟩
    · obtain rfl : rn0 = f := by omega
      rw [kernRTo_all] at ho
      have HO := hid ho
      have HB := hid (HBW.out.trans (hbk.mono hsz))
      clear ho hbk
      go_wp2
      go_ret
      exact ⟨_, w1.heap.size, rfl, hsz, HO.out, HB.out⟩
end Go.Proofs.YtkmjeegnijohmaaGreat

namespace Go.Proofs.YtkmjeegnijohmaaGreat
open Go.RowKit
set_option linter.unusedVariables false

theorem pwithin_c (n lo hi : Int) (w : World) : Calls Tryz.prog 104 #[.int .i64 n, .int .i64 lo, .int .i64 hi] w fun e w' => e = .returned (.bool (inB n lo hi)) ∧ w = w' := by
  by_cases h1 : lo ≤ n <;> by_cases h2 : n ≤ hi
  all_goals
    go_enter Tryz.func104, Tryz.ntmps104
    go_wp2
    go_ret
    exact ⟨ret_bool (by simp [inB, h1, h2]), rfl⟩

theorem beyond1 (w : World) (b : Nat) (m : Int) (hm : 0 ≤ m ∧ m ≤ 1000000000) (hc : w.cell? ⟨b, 0, none⟩ = some (.int .i64 m)) (hb : b < w.heap.size) :
    PredI Tryz.prog 133 #[.pointer (some ⟨b, 0, none⟩)] w (fun n => !(inB n (-m) m)) := by
  intro x W hW
  have hc' : W.cell? ⟨b, 0, none⟩ = some (.int .i64 m) := (hW.cell (p := ⟨b, 0, none⟩) hb).trans hc
  obtain ⟨z, hz⟩ : ∃ z, z = -m := ⟨_, rfl⟩
  have hw : IntKind.i64.wrap (-m) = z := by rw [hz]; exact IntWalk.i64_in _ (by omega)
  rw [← hz]
  obtain ⟨B, hB⟩ : ∃ B, B = inB x z m := ⟨_, rfl⟩
  have HP := hid (pwithin_c x z m W)
  rw [← hB] at HP
  simp only [← hB]
  clear hB hc hz
  show Calls Tryz.prog 133 #[.int .i64 x, .pointer (some ⟨b, 0, none⟩)] W _
  go_enter Tryz.func133, Tryz.ntmps133
  go_wp2_with (go_at_call 104; refine HP.out.mono ?_; rintro e w1 ⟨rfl, rfl⟩)
  go_ret
  exact ⟨rfl, Below.refl _ _⟩

def milB (l : List Int) : Bool := l.all (fun n => inB n (-1000000) 1000000)

def dotV (r h : List Int) : Int := sm (fun c => vec r c * vec h c) r.length
theorem dot_le {r h : List Int} (hr : BndL 67108864 r) (hh : BndL 67108864 h) : ∀ k : Nat, (sm (fun c => vec r c * vec h c) k).natAbs ≤ k * 4503599627370496
  | 0 => by simp [sm]
  | k + 1 => by
    have h1 := dot_le hr hh k
    have h2 : (vec r k).natAbs ≤ 67108864 := by have := vec_mem (P := fun x => -((67108864 : Nat) : Int) ≤ x ∧ x ≤ ((67108864 : Nat) : Int)) (by decide) hr k; omega
    have h3 : (vec h k).natAbs ≤ 67108864 := by have := vec_mem (P := fun x => -((67108864 : Nat) : Int) ≤ x ∧ x ≤ ((67108864 : Nat) : Int)) (by decide) hh k; omega
    have h4 : (vec r k * vec h k).natAbs ≤ 67108864 * 67108864 := by rw [Int.natAbs_mul]; exact Nat.mul_le_mul h2 h3
    show (sm (fun c => vec r c * vec h c) k + vec r k * vec h k).natAbs ≤ _
    omega

theorem r2dot_c (w : World) (a a2 : Option Addr) (n cap n2 cap2 : Nat) (r h : List Int) (hn : r.length = n) (hn2 : h.length = n2) (hm : n ≤ 1000) (hle : n ≤ n2) (H : IntsAt w a r) (H2 : IntsAt w a2 h) (hr : BndL 67108864 r) (hh : BndL 67108864 h) :
    Calls Tryz.prog 97 #[.slice a n cap, .slice a2 n2 cap2] w fun e w' => e = .returned (.int .i64 (dotV r h)) ∧ ∃ k, w' = w.drewN k := by
  have HN := hid hn
  have HN2 := hid hn2
  have HH := hid H
  have HH2 := hid H2
  have HDL := hid (dot_le hr hh)
  have HR := hid hr
  have HHB := hid hh
  have HD := hid (show dotV r h = sm (fun c => vec r c * vec h c) n by unfold dotV; rw [hn])
  clear hn hn2 H H2 hr hh
  go_enter Tryz.func97, Tryz.ntmps97
  go_wp2
  go_loopw [5, 9] (fun s i wr => ∃ k : Nat, k ≤ n ∧ i = .int .i64 k ∧ s = .int .i64 (sm (fun c => vec r c * vec h c) k) ∧ ∃ q, wr = w.drewN q) (fun _ i _ => n - (intOf i).toNat)
  case atStart => exact ⟨0, Nat.zero_le _, rfl, rfl, 0, rfl⟩
  case round =>
    obtain ⟨k, hk, rfl, rfl, q, rfl⟩ := hrel
    by_cases hlt : k < n
    · have hkl : k < r.length := by rw [HN.out]; exact hlt
      have hkl2 : k < h.length := by rw [HN2.out]; omega
      obtain ⟨b, off, rfl, hbs, hc⟩ := HH.out k hkl
      obtain ⟨b2, off2, rfl, hbs2, hc2⟩ := HH2.out k hkl2
      have g1 := HR.out.get hkl
      have g2 := HHB.out.get hkl2
      have e1 := HDL.out k
      have e2 := HDL.out (k + 1)
      have es : sm (fun c => vec r c * vec h c) (k + 1) = sm (fun c => vec r c * vec h c) k + r[k]?.getD 0 * h[k]?.getD 0 := rfl
      obtain ⟨x, hx⟩ : ∃ x, x = r[k]?.getD 0 := ⟨_, rfl⟩
      obtain ⟨y, hy⟩ : ∃ x, x = h[k]?.getD 0 := ⟨_, rfl⟩
      rw [← hx] at hc g1 es
      rw [← hy] at hc2 g2 es
      obtain ⟨s0, hs0⟩ : ∃ x, x = sm (fun c => vec r c * vec h c) k := ⟨_, rfl⟩
      rw [← hs0] at es e1 ⊢
      rw [es] at e2
      have e3 := mul_bnd (show -(67108864 : Int) ≤ x ∧ x ≤ 67108864 by omega) (show -(67108864 : Int) ≤ y ∧ y ≤ 67108864 by omega)
      obtain ⟨m, hmm⟩ : ∃ m, m = x * y := ⟨_, rfl⟩
      rw [← hmm] at es e2 e3
      have w1 : IntKind.i64.wrap (x * y) = m := by rw [← hmm]; exact IntWalk.i64_in _ (by omega)
      have w2 : IntKind.i64.wrap (s0 + m) = s0 + m := IntWalk.i64_in _ (by omega)
      have HES := hid es
      have i1 : (0 : Int) ≤ (k : Int) := by omega
      have i2 : (k : Int) < (n : Int) := by omega
      have i3 : (k : Int) < (n2 : Int) := by omega
      clear hx hy hs0 hmm es e1 e2 e3 g1 g2 hkl hkl2
      go_wp2
      go_quiet (fail)
      go_wp2
      exact ⟨⟨k + 1, by omega, by go_num, by rw [HES.out], _, rfl⟩, by simp [intOf]; omega⟩
    · obtain rfl : n = k := by omega
      go_wp2
      go_ret
      exact ⟨ret_int HD.out.symm, q, rfl⟩

end Go.Proofs.YtkmjeegnijohmaaGreat

namespace Go.Proofs.YtkmjeegnijohmaaGreat
open Go.RowKit
set_option linter.unusedVariables false

theorem mil_bnd {h : List Int} (e : milB h = true) : BndL 67108864 h := by
  intro x hx
  have := List.all_eq_true.1 e x hx
  unfold inB at this
  simp only [Bool.and_eq_true, decide_eq_true_eq] at this
  omega
theorem one_bnd {M : Mask} {W : Nat} (h : MaskOk M W) : ∀ r ∈ M, BndL 67108864 r := fun r hr => mem_vec (P := fun x => -((67108864 : Nat) : Int) ≤ x ∧ x ≤ ((67108864 : Nat) : Int)) fun c => by have := h.one r hr c; omega
theorem any_mil (h : List Int) : h.any (fun n => !(inB n (-1000000) 1000000)) = !milB h := by unfold milB; rw [List.not_all_eq_any_not]
theorem beyond_c (w : World) (m : Int) : Calls Tryz.prog 124 #[.int .i64 m] w fun e w' => ∃ b, e = .returned (.func (.func 133) #[] #[.pointer (some ⟨b, 0, none⟩)]) ∧ w'.cell? ⟨b, 0, none⟩ = some (.int .i64 m) ∧ b < w'.heap.size ∧ Below w.heap.size w w' := by
  go_enter Tryz.func124, Tryz.ntmps124
  go_wp2
  go_ret
  exact ⟨w.heap.size, rfl, by rw [World.cell?_alloc_at _ _ _ _ rfl]; rfl, by simp, (Below.refl _ _).alloc (Nat.le_refl _) _⟩

end Go.Proofs.YtkmjeegnijohmaaGreat

namespace Go.Proofs.YtkmjeegnijohmaaGreat
set_option linter.unusedVariables false

theorem upF_get : ∀ (m : Nat) (a : Int) (j : Nat), j < m → (upF a m)[j]? = some (a + j)
  | 0, _, _, h => by omega
  | m + 1, a, 0, _ => by simp [upF]
  | m + 1, a, j + 1, h => by
    show (upF (a + 1) m)[j]? = _
    rw [upF_get m (a + 1) j (by omega)]; congr 1; omega
theorem upF_snoc : ∀ (m : Nat) (a : Int), upF a (m + 1) = upF a m ++ [a + m]
  | 0, a => by simp [upF]
  | m + 1, a => by
    show a :: upF (a + 1) (m + 1) = a :: (upF (a + 1) m ++ _)
    rw [upF_snoc m (a + 1)]
    congr 3; omega
theorem upF_range (m : Nat) : ∀ a : Nat, upF (a : Int) m = (List.range' a m).map (fun j : Nat => (j : Int)) := by
  induction m with
  | zero => intro a; rfl
  | succ m ih =>
    intro a
    show (a : Int) :: upF ((a : Int) + 1) m = _
    have := ih (a + 1)
    rw [show ((a : Int) + 1) = ((a + 1 : Nat) : Int) by omega, this]
    simp [List.range'_succ]

def TailAt (n k : Nat) (x : List Int) (m : Nat) : Prop := ∀ j, m ≤ j → j < k → x[j]? = some ((n : Int) - k + j)

theorem tail_le {n k m : Nat} {x : List Int} (hl : x.length = k) (hp : x.Pairwise (· < ·)) (hb : ∀ y ∈ x, y < (n : Int)) (hm : m < k) (ht : TailAt n k x (m + 1)) : x[m]?.getD 0 ≤ (n : Int) - k + m := by
  have hml : m < x.length := by omega
  rw [List.getElem?_eq_getElem hml]
  by_cases e : m + 1 = k
  · have := hb _ (List.getElem_mem hml); simp; omega
  · have h1 := ht (m + 1) (Nat.le_refl _) (by omega)
    have hml1 : m + 1 < x.length := by omega
    rw [List.getElem?_eq_getElem hml1] at h1
    have h2 := List.pairwise_iff_getElem.1 hp m (m + 1) hml hml1 (by omega)
    have h3 := Option.some.inj h1
    simp; omega
theorem tail_step {n k m : Nat} {x : List Int} (hl : x.length = k) (hm : m < k) (ht : TailAt n k x (m + 1)) (he : x[m]?.getD 0 = (n : Int) - k + m) : TailAt n k x m := by
  intro j h1 h2
  by_cases e : j = m
  · subst e
    rw [List.getElem?_eq_getElem (by omega)] at he ⊢
    rw [← he]; rfl
  · exact ht j (by omega) h2
theorem tail_drop {n k m : Nat} {x : List Int} (hl : x.length = k) (hk : k ≤ n) (hm : m ≤ k) (ht : TailAt n k x m) : x.drop m = upF ((n : Int) - (k - m : Nat)) (k - m) := by
  apply List.ext_getElem?
  intro j
  rw [List.getElem?_drop]
  rcases Nat.lt_or_ge j (k - m) with h | h
  · rw [ht (m + j) (by omega) (by omega), upF_get _ _ _ h]; congr 1; omega
  · rw [List.getElem?_eq_none (by omega), List.getElem?_eq_none (by rw [upF_len]; omega)]

theorem next_none {n k : Nat} {x : List Int} (hl : x.length = k) (hk : k ≤ n) (ht : TailAt n k x 0) : nextS n x = none := by
  have := tail_drop hl hk (Nat.zero_le _) ht
  rw [List.drop_zero, Nat.sub_zero] at this
  rw [this]
  exact nextS_up k _ (by omega)
def fillS (x : List Int) (m j : Nat) : List Int := x.take m ++ upF (x[m]?.getD 0 + 1) (j - m) ++ x.drop j
theorem fillS_len {x : List Int} {m j : Nat} (h1 : m ≤ j) (h2 : j ≤ x.length) : (fillS x m j).length = x.length := by
  unfold fillS; simp [upF_len]; omega
theorem fillS_get {x : List Int} {m j : Nat} (h1 : m < j) (h2 : j ≤ x.length) : (fillS x m j)[j - 1]?.getD 0 = x[m]?.getD 0 + (j - m : Nat) := by
  unfold fillS
  rw [List.getElem?_append_left (by simp [upF_len]; omega), List.getElem?_append_right (by simp; omega)]
  simp only [List.length_take]
  rw [show j - 1 - min m x.length = j - m - 1 by omega, upF_get _ _ _ (by omega)]
  simp; omega
theorem fillS_set {x : List Int} {m j : Nat} (h1 : m ≤ j) (h2 : j < x.length) : (fillS x m j).set j (x[m]?.getD 0 + (j + 1 - m : Nat)) = fillS x m (j + 1) := by
  unfold fillS
  have hl : (x.take m ++ upF (x[m]?.getD 0 + 1) (j - m)).length = j := by simp [upF_len]; omega
  rw [List.set_append_right _ _ (by omega), hl, Nat.sub_self, List.drop_eq_getElem_cons h2, List.set_cons_zero, show j + 1 - m = (j - m) + 1 by omega, upF_snoc]
  simp
  omega
theorem fillS_start {x : List Int} {m : Nat} (hm : m < x.length) : x.set m (x[m]?.getD 0 + 1) = fillS x m (m + 1) := by
  have := fillS_set (x := x) (m := m) (j := m) (Nat.le_refl _) hm
  rw [show m + 1 - m = 1 by omega] at this
  unfold fillS at this ⊢
  rw [← this]
  simp [upF]
theorem fillS_done {n k m : Nat} {x : List Int} (hl : x.length = k) (hk : k ≤ n) (hm : m < k) (ht : TailAt n k x (m + 1)) (hlt : x[m]?.getD 0 < (n : Int) - k + m) : nextS n x = some (fillS x m k) := by
  have h1 := tail_drop hl hk (by omega) ht
  have hml : m < x.length := by omega
  have hx : x = x.take m ++ x[m] :: upF ((n : Int) - (k - (m + 1) : Nat)) (k - (m + 1)) := by
    rw [← h1, ← List.drop_eq_getElem_cons hml, List.take_append_drop]
  have hd : x[m]?.getD 0 = x[m] := by rw [List.getElem?_eq_getElem hml]; rfl
  rw [hd] at hlt
  have h2 := nextS_at (n := (n : Int)) (m := k - (m + 1)) (d := x[m]) (by omega) (x.take m)
  rw [← hx] at h2
  rw [h2]
  unfold fillS
  rw [hd, List.drop_eq_nil_of_le (by omega), List.append_nil, show k - (m + 1) + 1 = k - m by omega]

theorem take_snoc_at {α : Type} {l : List α} {i : Nat} {x : α} (h : l[i]? = some x) : l.take i ++ [x] = l.take (i + 1) := by
  obtain ⟨hi, rfl⟩ := List.getElem?_eq_some_iff.1 h
  rw [List.take_succ_eq_append_getElem hi]
theorem take_all_at {α : Type} {l : List α} {i : Nat} {x : α} (h : l[i]? = some x) (hn : l[i + 1]? = none) : l.take (i + 1) = l := by
  exact List.take_of_length_le (List.getElem?_eq_none_iff.1 hn)
end Go.Proofs.YtkmjeegnijohmaaGreat

namespace Go.Proofs.YtkmjeegnijohmaaGreat
open Go.RowKit
set_option linter.unusedVariables false
attribute [local go_sem] Oper.semAt_some

theorem allI_upF (n : Nat) : allI n = upF 0 n := by
  have := upF_range n 0
  rw [show ((0 : Nat) : Int) = 0 from rfl] at this
  rw [this]
  unfold allI
  rw [List.range_eq_range']

set_option maxRecDepth 100000 in
set_option maxHeartbeats 4000000 in
theorem iter_sets (w0 : World) (n k kb nb : Nat) (hn : n ≤ 1000) (hk : k ≤ 1000) (hk1 : 1 ≤ k) (hkb : kb < w0.heap.size) (hnb : nb < w0.heap.size) (hf0 : w0.cell? ⟨kb, 0, none⟩ = some (.int .i64 k)) (hf1 : w0.cell? ⟨nb, 0, none⟩ = some (.int .i64 n)) :
    IterInts Tryz.prog 3 126 #[.pointer (some ⟨kb, 0, none⟩), .pointer (some ⟨nb, 0, none⟩)] (comb n k 0) (fun q => q = kb ∨ q = nb) w0 := by
  obtain ⟨xs, hxs⟩ : ∃ xs, xs = comb n k 0 := ⟨_, rfl⟩
  have hfacts : ∀ x ∈ xs, x.length = k ∧ x.Pairwise (· < ·) ∧ (∀ y ∈ x, y < (n : Int)) ∧ ∀ j : Nat, (0 : Int) ≤ x[j]?.getD 0 := fun x hx => by
    rw [hxs] at hx
    obtain ⟨h1, h2⟩ := comb_asc n k 0 x hx
    exact ⟨comb_len n k 0 x hx, h1, fun y hy => by have := (h2 y hy).2; omega, fun j => by
      rcases Nat.lt_or_ge j x.length with h | h
      · rw [List.getElem?_eq_getElem h]; have := (h2 _ (List.getElem_mem h)).1; simp; omega
      · rw [List.getElem?_eq_none h]; simp⟩
  have hchn : Chn n none xs := by rw [hxs]; have := comb_chn n k 0; rwa [Int.zero_add] at this
  have hhead : k ≤ n → xs[0]? = some (upF 0 k) := fun hkn => by
    rw [hxs]
    obtain ⟨t, ht⟩ := comb_head n k 0 hkn
    rw [ht]; rfl
  have hnil : ¬ k ≤ n → xs = [] := fun h => by rw [hxs]; exact comb_none n k 0 (by omega)
  rw [← hxs]
  have HF := hid hfacts
  have HC := hid hchn
  have HH := hid hhead
  have HNL := hid hnil
  clear hfacts hchn hhead hnil hxs
  intro l J Jx W hb hJ hY h0
  have hg0 : W.cell? ⟨kb, 0, none⟩ = some (.int .i64 k) := (hb.cell (p := ⟨kb, 0, none⟩) hkb).trans hf0
  have hg1 : W.cell? ⟨nb, 0, none⟩ = some (.int .i64 n) := (hb.cell (p := ⟨nb, 0, none⟩) hnb).trans hf1
  have hkW : kb < W.heap.size := Nat.lt_of_lt_of_le hkb hb.size
  have hnW : nb < W.heap.size := Nat.lt_of_lt_of_le hnb hb.size
  have HJ := hid hJ
  have HY := hid hY
  have H0 := hid h0
  have HALL := hid (all_c W k hk)
  clear hJ hY h0 hf0 hf1 hb
  refine callsIn_of_wp Tryz.func126 rfl trivial ?_ rfl
  simp only [Tryz.ntmps126, List.size_toArray, List.length_cons, List.length_nil, Nat.reduceAdd, Nat.reduceSub, Array.replicate_succ, Array.replicate_zero, List.push_toArray, List.append_toArray, List.nil_append, List.cons_append]
  gi_wp2_with (refine ⟨trivial, rfl, ?_⟩; gi_at_call 127; refine (callsIn_wide.2 HALL.out).mono ?_; rintro e w1 ⟨v, rfl, ho1, hb1⟩; refine Stop.of ?_)
  refine Stop.go ?_
  obtain ⟨it, cap, rfl, hit, hr1⟩ := spRow_own ho1 (allI_len k) hk1
  rw [allI_upF] at hr1
  have hJ1 : J it [] w1 := HJ.out it _ _ _ hit (H0.out it hit) (Keep.of_below hb1)
  have hkb1 := hb1.block kb hkW
  have hnb1 := hb1.block nb hnW
  have hs1 := hb1.size
  clear ho1 HALL
  by_cases hkn : k ≤ n
  · have hhead := HH.out hkn
    have hit1 := hr1.lt
    have HIT := hid hit
    clear hit
    gi_wp2
    gi_loopg [] xs.length (fun (g : Nat) wr => ∃ (i : Nat) (x : List Int), g = xs.length - i ∧ xs[i]? = some x ∧ J it (xs.take i) wr ∧ SpRow wr it x ∧ wr.heap[kb]? = W.heap[kb]? ∧ wr.heap[nb]? = W.heap[nb]? ∧ W.heap.size ≤ wr.heap.size)
    case atStart => exact ⟨0, upF 0 k, by omega, hhead, by rw [List.take_zero]; exact hJ1, hr1, hkb1, hnb1, hs1⟩
    case round =>
      obtain ⟨i, x, rfl, hx, hJk, hrk, hfk, hfn, hsz⟩ := hrel
      have hxm : x ∈ xs := List.mem_of_getElem? hx
      obtain ⟨hxl, hxp, hxb, hxn⟩ := HF.out x hxm
      have hil : i < xs.length := (List.getElem?_eq_some_iff.1 hx).1
      obtain ⟨sp, hrow⟩ := hrk
      have hyk := HY.out it (xs.take i) x cap sp wr (by rw [take_snoc_at hx]; exact List.take_prefix _ _) HIT.out (Array.getElem?_eq_some_iff.1 hrow).1 hJk hrow
      rw [hxl, take_snoc_at hx] at hyk
      have hw0 : wr.cell? ⟨kb, 0, none⟩ = some (.int .i64 k) := (World.cell?_of_block (a := ⟨kb, 0, none⟩) hfk).trans hg0
      have hw1 : wr.cell? ⟨nb, 0, none⟩ = some (.int .i64 n) := (World.cell?_of_block (a := ⟨nb, 0, none⟩) hfn).trans hg1
      have hkn' : (k : Int) ≤ (n : Int) := by omega
      have HRK := hid (show SpRow wr it x from ⟨sp, hrow⟩)
      have HFK := hid hfk
      have HFN := hid hfn
      have HX := hid hx
      have HXL := hid hxl
      have HXP := hid hxp
      have HXB := hid hxb
      have HXN := hid hxn
      clear hrow hJk hfk hfn hx hxm hxl hxp hxb hxn hhead hJ1 hr1 hkb1 hnb1
      obtain ⟨fn, tmps, assign, body, hy, hR⟩ := hyk
      gi_wp2
      refine ⟨rfl, hR.mono ?_⟩
      clear hR hy
      rintro e W3 (⟨rfl, hJ3, hs3, hk3⟩ | ⟨rfl, hJx⟩)
      · have hr3 : SpRow W3 it x := HRK.out.keep (hk3 it (Or.inr rfl))
        have hfk3 : W3.heap[kb]? = W.heap[kb]? := (hk3 kb (Or.inl (Or.inl rfl))).trans HFK.out
        have hfn3 : W3.heap[nb]? = W.heap[nb]? := (hk3 nb (Or.inl (Or.inr rfl))).trans HFN.out
        have hg30 : W3.cell? ⟨kb, 0, none⟩ = some (.int .i64 k) := (World.cell?_of_block (a := ⟨kb, 0, none⟩) hfk3).trans hg0
        have hg31 : W3.cell? ⟨nb, 0, none⟩ = some (.int .i64 n) := (World.cell?_of_block (a := ⟨nb, 0, none⟩) hfn3).trans hg1
        have HR3 := hid hr3
        have HK3 := hid hfk3
        have HN3 := hid hfn3
        have HJ3 := hid hJ3
        clear hr3 hfk3 hfn3 hJ3 hk3 hw0 hw1 HRK HFK HFN
        gi_wp2
        gi_loopw [5] (fun i5 wi => ∃ i0 : Int, i5 = .int .i64 i0 ∧ -1 ≤ i0 ∧ i0 < k ∧ TailAt n k x (i0 + 1).toNat ∧ Below W3.heap.size W3 wi) (fun i5 _ => (intOf i5 + 1).toNat)
        case atStart =>
          refine ⟨k - 1, by first | rfl | (congr 1), by omega, by omega, ?_, Below.refl _ _⟩
          intro j h1 h2
          omega
        case round =>
          obtain ⟨i0, rfl, hi1, hi2, hT, hbi⟩ := hrel
          have hgk : wr.cell? ⟨kb, 0, none⟩ = some (.int .i64 k) := (hbi.cell (p := ⟨kb, 0, none⟩) (by show kb < _; omega)).trans hg30
          have hgn : wr.cell? ⟨nb, 0, none⟩ = some (.int .i64 n) := (hbi.cell (p := ⟨nb, 0, none⟩) (by show nb < _; omega)).trans hg31
          have hri := HR3.out.keep (hbi.block it HR3.out.lt)
          have HBI := hid hbi
          clear hbi
          by_cases h0 : 0 ≤ i0
          · obtain ⟨m, rfl⟩ := Int.eq_ofNat_of_zero_le h0
            have e1 : ((m : Int) + 1).toNat = m + 1 := by omega
            rw [e1] at hT
            have hmk : m < k := by omega
            have hle := tail_le HXL.out HXP.out HXB.out hmk hT
            have hc : wr.cell? ⟨it, m, none⟩ = some (.int .i64 (x[m]?.getD 0)) := hri.cell (by rw [HXL.out]; exact hmk)
            have hw1 : wrap64 ((n : Int) - k) = (n : Int) - k := by unfold wrap64; omega
            have hw2 : wrap64 ((n : Int) - k + m) = (n : Int) - k + m := by unfold wrap64; omega
            have hz := hri.frozen m
            have hlt3 := hri.lt
            have HRI := hid hri
            clear hri
            have hm0 : (0 : Int) ≤ (m : Int) := by omega
            have hm1 : (m : Int) < (k : Int) := by omega
            have HT := hid hT
            by_cases he : x[m]?.getD 0 = (n : Int) - k + m
            · have hst := tail_step HXL.out hmk hT he
              have hbe : (x[m]?.getD 0 == (n : Int) - k + m) = true := by simpa using he
              have HST := hid hst
              clear he hst hT hle
              gi_wp2
              gi_quiet (fail)
              gi_wp2
              refine ⟨⟨(m : Int) - 1, rfl, by omega, by omega, ?_, below_drewN HBI.out nq⟩, ?_⟩
              · rw [show ((m : Int) - 1 + 1).toNat = m by omega]; exact HST.out
              · simp [intOf]
            · have hbe : (x[m]?.getD 0 == (n : Int) - k + m) = false := by simpa using he
              have hlt : x[m]?.getD 0 < (n : Int) - k + m := by omega
              have HLT := hid hlt
              clear he hT hle hlt
              gi_wp2
              gi_quiet (fail)
              have HRQ := hid (show SpRow (wr.drewN nq) it x from HRI.out)
              have HBQ := hid (below_drewN HBI.out nq)
              have hgk2 : (wr.drewN nq).cell? ⟨kb, 0, none⟩ = some (.int .i64 k) := hgk
              have hc2 : (wr.drewN nq).cell? ⟨it, m, none⟩ = some (.int .i64 (x[m]?.getD 0)) := hc
              have hz2 : (wr.drewN nq).frozen? ⟨it, m, none⟩ = false := hz
              have hlt2 : it < (wr.drewN nq).heap.size := hlt3
              clear HRI HBI hgk hgn hc hz hlt3
              generalize wr.drewN nq = w4 at HRQ HBQ hgk2 hc2 hz2 hlt2 ⊢
              have hv : wrap64 (x[m]?.getD 0 + 1) = x[m]?.getD 0 + 1 := by
                have h1 := HLT.out
                have h2 : (0 : Int) ≤ x[m]?.getD 0 := HXN.out m
                unfold wrap64; omega
              have HV := hid hv
              clear hv
              have HKS := hid (HRQ.out.set m (by rw [HXL.out]; exact hmk) (x[m]?.getD 0 + 1))
              rw [fillS_start (by rw [HXL.out]; exact hmk)] at HKS
              have HW9 := hid (show wrap64 ((m : Int) + 1) = ((m + 1 : Nat) : Int) by unfold wrap64; omega)
              gi_wp2
              gi_loopw [6] (fun v wj => ∃ j : Nat, m + 1 ≤ j ∧ j ≤ k ∧ v = .int .i64 j ∧ SpRow wj it (fillS x m j) ∧ Keep (fun q => q ≠ it) w4 wj) (fun v _ => k - (intOf v).toNat)
              case atStart => exact ⟨m + 1, Nat.le_refl _, by omega, by rw [show ((m : Int) + 1) = ((m + 1 : Nat) : Int) by omega], by have h := HKS.out; with_reducible (first | (rw [HV.out]; exact h) | exact h), Keep.set _ _ _ _⟩
              case round =>
                obtain ⟨j, hj1, hj2, rfl, hrj, hkj⟩ := hrel
                have hgj : wr.cell? ⟨kb, 0, none⟩ = some (.int .i64 k) := hkj.cell hgk2 (by have := HIT.out; omega)
                by_cases hjk : j < k
                · have hlen := fillS_len (m := m) (j := j) (x := x) (by omega) (show j ≤ x.length by rw [HXL.out]; omega)
                  have hget := fillS_get (x := x) (show m < j by omega) (by rw [HXL.out]; omega)
                  have hset := fillS_set (x := x) (show m ≤ j by omega) (by rw [HXL.out]; omega)
                  have hcj := hrj.cell (j := j - 1) (by rw [hlen, HXL.out]; omega)
                  rw [hget] at hcj
                  have hzj := hrj.frozen j
                  have hcj2 := hrj.cell (j := j) (by rw [hlen, HXL.out]; exact hjk)
                  obtain ⟨u, hu⟩ : ∃ u, u = (fillS x m j)[j]?.getD 0 := ⟨_, rfl⟩
                  rw [← hu] at hcj2
                  have hltj := hrj.lt
                  have hwj : wrap64 ((j : Int) - 1) = ((j - 1 : Nat) : Int) := by unfold wrap64; omega
                  have hwv : wrap64 (x[m]?.getD 0 + ((j - m : Nat) : Int) + 1) = x[m]?.getD 0 + ((j + 1 - m : Nat) : Int) := by
                    have h1 := HLT.out
                    have h2 : (0 : Int) ≤ x[m]?.getD 0 := HXN.out m
                    unfold wrap64; omega
                  have HSJ := hid (hrj.set j (by rw [hlen, HXL.out]; exact hjk) (x[m]?.getD 0 + ((j + 1 - m : Nat) : Int)))
                  rw [hset] at HSJ
                  have i1 : (0 : Int) ≤ ((j - 1 : Nat) : Int) := by omega
                  have i2 : ((j - 1 : Nat) : Int) < (k : Int) := by omega
                  have i3 : (0 : Int) ≤ (j : Int) := by omega
                  have i4 : (j : Int) < (k : Int) := by omega
                  have HKJ := hid hkj
                  obtain ⟨y, hy⟩ : ∃ y, y = x[m]?.getD 0 + ((j - m : Nat) : Int) := ⟨_, rfl⟩
                  obtain ⟨z, hz⟩ : ∃ z, z = x[m]?.getD 0 + ((j + 1 - m : Nat) : Int) := ⟨_, rfl⟩
                  rw [← hy, ← hz] at hwv
                  rw [← hy] at hcj
                  rw [← hz] at HSJ
                  obtain ⟨p, hp⟩ : ∃ p, p = j - 1 := ⟨_, rfl⟩
                  rw [← hp] at hcj hwj i1 i2
                  have hjp : (j : Int) - 1 = (p : Int) := by omega
                  clear hrj hkj hlen hget hset hy hz hp hu
                  gi_wp2
                  refine ⟨⟨j + 1, by omega, by omega, ?_, HSJ.out, HKJ.out.trans (Keep.set _ _ _ _)⟩, by simp [intOf]; omega⟩
                  rw [show ((j : Int) + 1) = ((j + 1 : Nat) : Int) by omega]
                · obtain rfl : j = k := by omega
                  have hnx := HC.out.at HX.out
                  rw [fillS_done HXL.out hkn hmk HT.out HLT.out] at hnx
                  have hi1 : i + 1 < xs.length := (List.getElem?_eq_some_iff.1 hnx).1
                  have HNX := hid hnx
                  have HKJ := hid hkj
                  have HRJ := hid hrj
                  clear hnx hkj hrj
                  gi_wp2
                  gi_roundg (xs.length - (i + 1))
                  case measure => omega
                  case rel =>
                    refine ⟨i + 1, fillS x m j, rfl, HNX.out, ?_, HRJ.out, ?_, ?_, ?_⟩
                    · exact HJ.out it _ W3 _ HIT.out HJ3.out ((Keep.of_below HBQ.out).trans HKJ.out)
                    · exact (HKJ.out.block kb (by have := HBQ.out.size; omega) (by have := HIT.out; omega)).trans ((HBQ.out.block kb (by omega)).trans HK3.out)
                    · exact (HKJ.out.block nb (by have := HBQ.out.size; omega) (by have := HIT.out; omega)).trans ((HBQ.out.block nb (by omega)).trans HN3.out)
                    · have := HKJ.out.size; have := HBQ.out.size; omega
          · obtain rfl : i0 = -1 := by omega
            have hn0 : decide ((0 : Int) ≤ -1) = false := by decide
            have HT := hid hT
            clear hT
            gi_wp2
            gi_quiet (fail)
            gi_wp2
            refine bodyPost_ret (results_none rfl _ _ _) rfl ?_
            refine ⟨⟨_, rfl⟩, .inl ⟨it, HIT.out, ?_⟩⟩
            have hnx := HC.out.at HX.out
            rw [next_none HXL.out hkn (by simpa using HT.out)] at hnx
            rw [← take_all_at HX.out hnx]
            exact HJ.out it _ W3 _ HIT.out HJ3.out (Keep.of_below (below_drewN HBI.out _))
      · gi_wp2
        refine bodyPost_ret (results_none rfl _ _ _) rfl ?_
        exact ⟨⟨_, rfl⟩, .inr ⟨_, List.take_prefix _ _, hJx⟩⟩
  · have HNIL := hid (HNL.out hkn)
    have hkb' : w1.cell? ⟨kb, 0, none⟩ = some (.int .i64 k) := (World.cell?_of_block (a := ⟨kb, 0, none⟩) hkb1).trans hg0
    have hnb' : w1.cell? ⟨nb, 0, none⟩ = some (.int .i64 n) := (World.cell?_of_block (a := ⟨nb, 0, none⟩) hnb1).trans hg1
    have hd : decide ((k : Int) ≤ (n : Int)) = false := by simp; omega
    have HJ1 := hid hJ1
    have HIT := hid hit
    clear hJ1 hit hr1
    gi_wp2
    gi_loopw [] (fun wr => ∃ q, wr = w1.drewN q) (fun _ => 0)
    case atStart => exact ⟨0, rfl⟩
    case round =>
      obtain ⟨q, rfl⟩ := hrel
      have hkb2 : (w1.drewN q).cell? ⟨kb, 0, none⟩ = some (.int .i64 k) := hkb'
      have hnb2 : (w1.drewN q).cell? ⟨nb, 0, none⟩ = some (.int .i64 n) := hnb'
      gi_wp2
      go_end0
      refine ⟨⟨_, rfl⟩, .inl ⟨it, HIT.out, ?_⟩⟩
      rw [HNIL.out]
      exact HJ.out it _ _ _ HIT.out HJ1.out ((Keep.refl _ _).drewN q)
end Go.Proofs.YtkmjeegnijohmaaGreat

namespace Go.Proofs.YtkmjeegnijohmaaGreat
open Go.RowKit
set_option linter.unusedVariables false

theorem sets_c (w : World) (n k : Int) :
    Calls Tryz.prog 117 #[.int .i64 n, .int .i64 k] w fun e w' => e = .returned (.func (.func 126) #[] #[.pointer (some ⟨w.heap.size + 1, 0, none⟩), .pointer (some ⟨w.heap.size, 0, none⟩)]) ∧
      w' = (w.alloc (.cells #[.int .i64 n] 3)).alloc (.cells #[.int .i64 k] 3) := by
  have hmf : ∀ (fn : Fn) (first cap : Array Value) (w : World), (Instr.makeFunc fn first cap).run Tryz.prog w = .ok (.func fn first cap) w := fun _ _ _ _ => rfl
  go_enter Tryz.func117, Tryz.ntmps117
  go_wp2
  go_ret
  exact ⟨by simp, rfl⟩
end Go.Proofs.YtkmjeegnijohmaaGreat

namespace Go.Proofs.YtkmjeegnijohmaaGreat
open Go.RowKit
set_option linter.unusedVariables false

def Marks (b : Nat) : Nat → List Deferred → World → Prop
  | _, [], _ => True
  | top, d :: ds, w => ∃ h, b ≤ h ∧ h < top ∧ d = { target := .collected h, args := #[] } ∧ w.heap[h]? = some (.deferred (some [])) ∧ Marks b h ds w

theorem Marks.keep {b : Nat} {S : Nat → Prop} {A B : World} (hk : Keep S A B) : ∀ {top : Nat} {D : List Deferred}, (∀ k, k < A.heap.size → b ≤ k → k < top → A.heap[k]? = some (.deferred (some [])) → S k) → Marks b top D A → Marks b top D B
  | _, [], _, _ => trivial
  | top, d :: ds, hS, h => by
    obtain ⟨k, h1, h2, h3, h4, h5⟩ := h
    have hlt := (Array.getElem?_eq_some_iff.1 h4).1
    exact ⟨k, h1, h2, h3, (hk.block k hlt (hS k hlt h1 h2 h4)).trans h4, Marks.keep hk (fun q hq hb hqk => hS q hq hb (by omega)) h5⟩
theorem Marks.lt {b : Nat} {A : World} : ∀ {top : Nat} {D : List Deferred}, Marks b top D A → Marks b A.heap.size D A
  | _, [], _ => trivial
  | top, d :: ds, ⟨k, h1, h2, h3, h4, h5⟩ => ⟨k, h1, (Array.getElem?_eq_some_iff.1 h4).1, h3, h4, h5⟩
theorem Marks.up {b top t2 : Nat} {D : List Deferred} {A : World} (h : Marks b top D A) (ht : top ≤ t2) : Marks b t2 D A := by
  cases D with
  | nil => trivial
  | cons d ds =>
    obtain ⟨k, h1, h2, h3⟩ := h
    exact ⟨k, h1, by omega, h3⟩
theorem Marks.below {b k top : Nat} {D : List Deferred} {A : World} (hk : top ≤ k) : ∀ (o : Obj), Marks b top D A → Marks b top D (A.putObj k o) := fun o h => by
  induction D generalizing top with
  | nil => trivial
  | cons d ds ih =>
    obtain ⟨q, h1, h2, h3, h4, h5⟩ := h
    exact ⟨q, h1, h2, h3, (World.putObj_heap_other (by omega)).trans h4, ih (by omega) h5⟩

end Go.Proofs.YtkmjeegnijohmaaGreat

namespace Go.Proofs.YtkmjeegnijohmaaGreat
open Go.RowKit
set_option linter.unusedVariables false
attribute [local go_sem] Oper.semAt_some

theorem RowsO.lt {E T : TypeId} {W : World} {base : Nat} {S : Nat → Prop} {v : Value} {ls : List (List Int)} (h : RowsO E T W base S v ls) : RowsO E T W base (fun b => S b ∧ b < W.heap.size) v ls := by
  obtain ⟨vs, ho, hg, he⟩ := h
  refine ⟨vs, ho, fun k hk => ⟨hg k hk, (ho.lt k hk).2⟩, fun j hj => ?_⟩
  obtain ⟨u, hu, a, n, cap, e, hn, hm, hel⟩ := he j hj
  refine ⟨u, hu, a, n, cap, e, hn, hm, fun i hi => ?_⟩
  obtain ⟨b, off, e, hS, hlt, rest⟩ := hel i hi
  exact ⟨b, off, e, ⟨hS, hlt⟩, hlt, rest⟩
theorem RowsO.mono {E T : TypeId} {W : World} {base : Nat} {S S' : Nat → Prop} {v : Value} {ls : List (List Int)} (h : RowsO E T W base S v ls) (hs : ∀ b, S b → S' b) : RowsO E T W base S' v ls := by
  obtain ⟨vs, ho, hg, he⟩ := h
  refine ⟨vs, ho, fun k hk => hs _ (hg k hk), fun j hj => ?_⟩
  obtain ⟨u, hu, a, n, cap, e, hn, hm, hel⟩ := he j hj
  refine ⟨u, hu, a, n, cap, e, hn, hm, fun i hi => ?_⟩
  obtain ⟨b, off, e, hS, hlt, rest⟩ := hel i hi
  exact ⟨b, off, e, hs _ hS, hlt, rest⟩
theorem comb_count : ∀ (m k : Nat) (a : Int), (comb m k a).length ≤ 2 ^ m
  | 0, 0, a => Nat.le_refl _
  | m + 1, 0, a => Nat.one_le_two_pow
  | 0, k + 1, a => by simp [comb]
  | m + 1, k + 1, a => by
    simp only [comb, List.length_append, List.length_map]
    have h1 := comb_count m k (a + 1)
    have h2 := comb_count m (k + 1) (a + 1)
    rw [Nat.pow_succ]; omega
theorem spread_all {P : Int → Prop} {n : Nat} {S l : List Int} (h0 : P 0) (hl : ∀ i : Nat, P (l[i]?.getD 0)) : ∀ k, ∀ x ∈ spreadF n S l k, P x
  | 0, x, hx => by
    unfold spreadF at hx
    simp at hx
    rw [hx.2]; exact h0
  | k + 1, x, hx => by
    rw [spreadF_succ] at hx
    rcases List.mem_or_eq_of_mem_set hx with h | rfl
    · exact spread_all h0 hl k x h
    · exact hl k
theorem kerSP_facts {M : List (List Int)} {n : Nat} (h : MaskOk M n) {S l : List Int} (hl : l ∈ kerSP M S) : l.length = S.length ∧ ∀ i : Nat, -518400 ≤ l[i]?.getD 0 ∧ l[i]?.getD 0 ≤ 518400 := by
  obtain ⟨_, h2, h3, _⟩ := (h.cols S).kern hl
  refine ⟨h2, fun i => ?_⟩
  have := h3 i
  unfold vec at this
  omega
theorem ne_one {k : Nat} (h : ¬ k = 1) : ((k : Int) != 1) = true := by simpa using (by omega : ¬ ((k : Int) = 1))
theorem ints_row {W : World} {it : Nat} {x : List Int} {sp : List Value} {E : TypeId} (h : W.heap[it]? = some (.cells (x.map (Value.int .i64) ++ sp).toArray E (0, 0))) : IntsAt W (some ⟨it, 0, none⟩) x := by
  intro j hj
  refine ⟨it, 0, rfl, (Array.getElem?_eq_some_iff.1 h).1, ?_⟩
  rw [Nat.zero_add]
  simp [World.cell?, h, List.getElem?_append_left, hj]
theorem ElemI.sp {W : World} {base g cap : Nat} {S : Nat → Prop} {l : List Int} (h : SpRow W g l) (hm : l.length ≤ maxLen) (hS : S g) : ElemI 3 W base S (.slice (some ⟨g, 0, none⟩) l.length cap) l := by
  refine ⟨_, _, cap, rfl, rfl, hm, fun j hj => ⟨g, 0, rfl, hS, h.lt, ?_, ?_⟩⟩
  · obtain ⟨sp, h⟩ := h
    exact .inr ⟨_, _, h⟩
  · rw [Nat.zero_add]; exact h.cell hj
theorem filterMap_snoc {α β : Type} (f : α → Option β) (l : List α) (x : α) : (l ++ [x]).filterMap f = l.filterMap f ++ (f x).toList := by
  rw [List.filterMap_append]; cases h : f x <;> simp [h]
def SIt (o Z it b : Nat) : Prop := b ≠ o ∧ b ≠ Z ∧ b ≠ Z + 1 ∧ b ≠ Z + 2 ∧ b ≠ Z + 3 ∧ b ≠ it

def CircI (w : World) (q1 q6 q7 base Z it : Nat) (mv : Value) (W : Nat) (D : List Deferred) (L : List (List Int)) (Y : World) : Prop :=
  ∃ v, Boxed Y q1 23 mv ∧ Boxed Y q6 3 (.int .i64 W) ∧ Boxed Y q7 22 v ∧ Below w.heap.size w Y ∧ Z + 2 ≤ Y.heap.size ∧ RowsO 3 33 Y base (SIt q7 Z it) v L ∧ Marks base Z D Y ∧ (∃ u, Boxed Y Z 3 u) ∧ ∃ u, Boxed Y (Z + 1) 3 u
theorem CircI.keep {w : World} {q1 q6 q7 base Z it it2 : Nat} {mv : Value} {W : Nat} {D : List Deferred} {L : List (List Int)} {A B : World} (h : CircI w q1 q6 q7 base Z it mv W D L A) (hk : Keep (fun k => k ≠ Z + 2 ∧ k ≠ Z + 2 + 1 ∧ k ≠ it2) A B)
    (h1 : q1 < Z) (h6 : q6 < Z) (h7 : q7 < Z) (hw : w.heap.size ≤ Z) (hi : Z + 4 ≤ it2) (e : it = it2) : CircI w q1 q6 q7 base Z it mv W D L B := by
  subst e
  obtain ⟨v, y1, y6, y7, yB, yS, yR, yD, ⟨u0, z0⟩, u1, z1⟩ := h
  refine ⟨v, (hk.block _ y1.lt (by omega)).trans y1, (hk.block _ y6.lt (by omega)).trans y6, (hk.block _ y7.lt (by omega)).trans y7, hk.below yB (by omega) (fun k _ => by omega), Nat.le_trans yS hk.size,
              yR.keep (hk.mono fun k hk => ⟨hk.2.2.2.1, hk.2.2.2.2.1, hk.2.2.2.2.2⟩), yD.keep hk (fun k _ _ hk _ => by omega), ⟨u0, (hk.block _ z0.lt (by omega)).trans z0⟩, u1, (hk.block _ z1.lt (by omega)).trans z1⟩
theorem CircI.below {w : World} {q1 q6 q7 base Z it : Nat} {mv : Value} {W : Nat} {D : List Deferred} {L : List (List Int)} {A B : World} (h : CircI w q1 q6 q7 base Z it mv W D L A) (hb : Below A.heap.size A B) : CircI w q1 q6 q7 base Z it mv W D L B := by
  obtain ⟨v, y1, y6, y7, yB, yS, yR, yD, ⟨u0, z0⟩, u1, z1⟩ := h
  exact ⟨v, (hb.block _ y1.lt).trans y1, (hb.block _ y6.lt).trans y6, (hb.block _ y7.lt).trans y7, chain yB hb, Nat.le_trans yS hb.size, yR.keep (Keep.of_below hb), Marks.keep (Keep.of_below hb : Keep (fun _ => True) A B) (fun _ _ _ _ _ => trivial) yD, ⟨u0, (hb.block _ z0.lt).trans z0⟩, u1, (hb.block _ z1.lt).trans z1⟩
theorem CircI.start {w X wL : World} {q1 q6 q7 base : Nat} {mv v : Value} {W : Nat} {D : List Deferred} {L : List (List Int)} (y1 : Boxed X q1 23 mv) (y6 : Boxed X q6 3 (.int .i64 W)) (y7 : Boxed X q7 22 v) (yB : Below w.heap.size w X)
    (yR : RowsO 3 33 X base (fun b => b ≠ q7) v L) (yD : Marks base X.heap.size D X) (hb : Below X.heap.size X wL) (hs : wL.heap.size = X.heap.size + 2) (z0 : ∃ u, Boxed wL X.heap.size 3 u) (z1 : ∃ u, Boxed wL (X.heap.size + 1) 3 u) (it : Nat) (hi : X.heap.size + 4 ≤ it) : CircI w q1 q6 q7 base X.heap.size it mv W D L wL := by
  refine ⟨v, (hb.block _ y1.lt).trans y1, (hb.block _ y6.lt).trans y6, (hb.block _ y7.lt).trans y7, chain yB hb, by omega, ?_, Marks.keep (Keep.of_below hb : Keep (fun _ => True) X wL) (fun _ _ _ _ _ => trivial) yD, z0, z1⟩
  exact (yR.lt.mono fun q hq => ⟨hq.1, by have := hq.2; omega, by have := hq.2; omega, by have := hq.2; omega, by have := hq.2; omega, by have := hq.2; omega⟩ : RowsO 3 33 X base (SIt q7 X.heap.size it) v L).keep (Keep.of_below hb)
theorem meas2 {n k : Nat} (h : k < n) : n - (intOf (.int .i64 ((k + 1 : Nat) : Int))).toNat < n - (intOf (.int .i64 (k : Int))).toNat := by simp [intOf]; omega

end Go.Proofs.YtkmjeegnijohmaaGreat

namespace Go.Proofs.YtkmjeegnijohmaaGreat
open Go.RowKit
set_option linter.unusedVariables false

def circV (M : Mask) : List Int × Int := if okM M = true then (match circP M (colsM M) with | [] => ([], 8) | c :: _ => (c, 0)) else ([], 1)
theorem circV_no {M : Mask} (h : okM M = false) : circV M = ([], 1) := by unfold circV; rw [h]; rfl
theorem circV_none {M : Mask} (h : okM M = true) (hc : circP M (colsM M) = []) : circV M = ([], 8) := by unfold circV; rw [if_pos h, hc]
theorem circV_cons {M : Mask} {c : List Int} {t : List (List Int)} (h : okM M = true) (hc : circP M (colsM M) = c :: t) : circV M = (c, 0) := by unfold circV; rw [if_pos h, hc]
def nzc (l : List Int) : Nat := l.countP (fun x => decide (x ≠ 0))
theorem nzc_take {l : List Int} {k : Nat} (hk : k < l.length) : nzc (l.take (k + 1)) = nzc (l.take k) + if l[k]?.getD 0 = 0 then 0 else 1 := by
  unfold nzc
  rw [List.take_succ_eq_append_getElem hk, List.countP_append, List.getElem?_eq_getElem hk]
  simp only [List.countP_cons, List.countP_nil, Option.getD_some, Nat.zero_add]
  by_cases h : l[k] = 0 <;> simp [h]

def CircRes (p : List Int × Int) (e : Ending) (w : World) : Prop := ∃ b k c, e = .returned (.tuple #[.slice b k c, .int .i64 p.2]) ∧ p.1.length = k ∧ k ≤ maxLen ∧ IntsAt w b p.1
theorem CircRes.nil (z : Int) (w : World) : CircRes ([], z) (.returned (.tuple #[.slice none 0 0, .int .i64 z])) w := ⟨none, 0, 0, rfl, rfl, Nat.zero_le _, fun j hj => by simp at hj⟩

end Go.Proofs.YtkmjeegnijohmaaGreat

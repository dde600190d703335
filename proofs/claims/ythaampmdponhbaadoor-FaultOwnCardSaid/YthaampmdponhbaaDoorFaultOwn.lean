/- The statement FaultOwn: the walk of the law. -/
import Derived.Test.YthaampmdponhbaaDoorFltAK
namespace Go.Proofs.YthaampmdponhbaaDoor
open Go.RowKit
set_option linter.unusedVariables false

theorem fitL_14 {L : List (List Int)} (h : fitL L (12 : Nat) = true) : L.length ≤ 14 := by
  unfold fitL at h; simp at h; omega
theorem explE_ok {M : Mask} {f : Flt} {t : List Tst} (h : explE M f t = 0) : validF M f = true ∧ okTests M t = true := by
  unfold explE at h
  by_cases h1 : validF M f = true ∧ okTests M t = true
  · exact h1
  · rw [if_neg h1] at h; simp at h
def ownT (M : Mask) (f : Flt) (x : List Int) : Tst := ⟨x, readF M f x⟩

set_option maxRecDepth 100000 in
set_option maxHeartbeats 4000000 in
theorem faultOwn_c (w : World) (ht : Tab w) (a : Option Addr) (n cap : Nat) (M : Mask) (hn : M.length = n) (hm : n ≤ maxLen) (H : RowsAt w a M) (f : Flt)
    (a3 : Option Addr) (n3 cap3 : Nat) (L : List (List Int)) (hn3 : L.length = n3) (hm3 : n3 ≤ maxLen) (H3 : RowsAt w a3 L) :
    Calls Tryd.prog 7 #[.slice a n cap, f.val, .slice a3 n3 cap3] w fun e w' => e = .returned (.bool true) ∧ Below w.heap.size w w' := by
  obtain ⟨wf, hwf, hb0, hcells⟩ := fltBox w f
  have HFit := hid (fit_c wf a n cap M hn hm (H.below hb0))
  have HLs := hid (lists_c wf a3 n3 cap3 L hn3 hm3 (H3.below hb0) 12 (by omega))
  have HAw := hid (fun (W : World) (hb : Below wf.heap.size wf W) => awake_c W (ht.below (chain hb0 hb)))
  have HR1 := hid (fun (W : World) (hb : Below wf.heap.size wf W) (xa : Option Addr) (xn xc : Nat) (x : List Int) (hx : x.length = xn) (hxm : xn ≤ maxLen) (hxi : IntsAt W xa x) => Reads_c W a n cap M hn hm (H.below (chain hb0 hb)) f xa xn xc x hx hxm hxi)
  have HR2 := hid (fun (W : World) (hb : Below wf.heap.size wf W) (xa : Option Addr) (xn xc : Nat) (x : List Int) (hx : x.length = xn) (hxm : xn ≤ maxLen) (hxi : IntsAt W xa x) (h0 : readsE M f x = 0) => ReadsO_c W a n cap M hn hm (H.below (chain hb0 hb)) f xa xn xc x hx hxm hxi h0)
  have HEx := hid (fun (W : World) (hb : Below wf.heap.size wf W) (ta : Option Addr) (tn tc : Nat) (t : List Tst) (h1 : t.length = tn) (h2 : tn ≤ maxLen) (h3 : TestsAt W ta t) => Explains_c W a n cap M hn hm (H.below (chain hb0 hb)) f ta tn tc t h1 h2 h3)
  have HWh := hid (fun (W : World) (hb : Below wf.heap.size wf W) (ta : Option Addr) (tn tc : Nat) (t : List Tst) (h1 : t.length = tn) (h2 : tn ≤ maxLen) (h3 : TestsAt W ta t) => Which_c W a n cap M hn hm (H.below (chain hb0 hb)) ta tn tc t h1 h2 h3)
  have HOn := hid (fun (W : World) (hb : Below wf.heap.size wf W) (g : Flt) => One_c W a n cap M hn hm (H.below (chain hb0 hb)) f g)
  have HL := hid (H3.below hb0)
  have HLN := hid hn3
  have HMN := hid hn
  have HC := hid hcells
  have HB := hid (fun (W : World) (hb : Below wf.heap.size wf W) => chain hb0 hb)
  have HWF := hid hwf
  have HF14 := hid (@fitL_14 L)
  unfold maxLen at hm hm3
  have hcs := hcells wf (Below.refl _ _)
  clear hn H hn3 H3 hcells hb0 hwf ht
  cases h1 : fitM M
  · rw [h1] at HFit
    clear h1
    obtain ⟨kind, row, pixel⟩ := f
    simp only [Flt.val] at HC HWF ⊢
    go_enter Tryd.func7, Tryd.ntmps7
    go_wp2_with fail
    rw [← HWF.out]
    go_wp2_with (first
      | (go_at_call 8; refine HFit.out.mono ?_; rintro e w1 ⟨rfl, rfl⟩)
      | (go_at_call 9; refine (HAw.out _ (Below.refl _ _)).mono ?_; rintro e w12 ⟨rfl, hb12⟩))
    go_ret
    exact ⟨rfl, HB.out _ hb12⟩
  rw [h1] at HFit
  clear h1
  cases h2 : fitL L (12 : Nat)
  · rw [h2] at HLs
    clear h2
    obtain ⟨kind, row, pixel⟩ := f
    simp only [Flt.val] at HC HWF ⊢
    go_enter Tryd.func7, Tryd.ntmps7
    go_wp2_with fail
    rw [← HWF.out]
    go_wp2_with (first
      | (go_at_call 8; refine HFit.out.mono ?_; rintro e w1 ⟨rfl, rfl⟩)
      | (go_at_call 15; refine HLs.out.mono ?_; rintro e w1 ⟨rfl, rfl⟩)
      | (go_at_call 9; refine (HAw.out _ (Below.refl _ _)).mono ?_; rintro e w12 ⟨rfl, hb12⟩))
    go_ret
    exact ⟨rfl, HB.out _ hb12⟩
  rw [h2] at HLs
  have hn14 : n3 ≤ 14 := by have := HF14.out h2; have := HLN.out; omega
  clear h2 HF14
  have HRD := hid (fun (W : World) (hb : Below wf.heap.size wf W) => (HC.out W hb).2)
  obtain ⟨R, hR⟩ : ∃ R, R = readF M f := ⟨_, rfl⟩
  have HOT := hid (fun (x : List Int) => show ownT M f x = ⟨x, R x⟩ by rw [hR]; rfl)
  have HOW := hid (fun (hv : validF M f = true) => own_which (M := M) (f := f) (L := L) hv)
  have hmap : (L.map (fun x => (⟨x, readF M f x⟩ : Tst))) = L.map (ownT M f) := rfl
  rw [hmap] at HOW
  have HEB := hid (fun (t : List Tst) (h : explE M f t = 0) => show explB M f t = explainsF M f t by unfold explB; rw [h]; simp)
  rw [← hR] at HR2
  have HRL := hid (fun (x : List Int) => show (R x).length = n by rw [hR, readF_length, HMN.out])
  have HEO := hid (fun (t : List Tst) (h : explE M f t = 0) => explE_ok h)
  obtain ⟨RE, hRE⟩ : ∃ E, E = readsE M f := ⟨_, rfl⟩
  obtain ⟨RLs, hRLs⟩ : ∃ E, E = readsL M f := ⟨_, rfl⟩
  rw [← hRE] at HR1 HR2
  rw [← hRLs] at HR1
  obtain ⟨OT, hOT⟩ : ∃ E, E = ownT M f := ⟨_, rfl⟩
  rw [← hOT] at HOW HOT
  obtain ⟨OE, hOE⟩ : ∃ E, E = oneE M f := ⟨_, rfl⟩
  obtain ⟨OB, hOB⟩ : ∃ E, E = oneB M f := ⟨_, rfl⟩
  rw [← hOE, ← hOB] at HOn HOW
  obtain ⟨EE, hEE⟩ : ∃ E, E = explE M f := ⟨_, rfl⟩
  obtain ⟨EB, hEB⟩ : ∃ E, E = explB M f := ⟨_, rfl⟩
  rw [← hEE, ← hEB] at HEx HEB
  rw [← hEE] at HEO
  clear hRE hRLs hOT hOE hOB hEE hEB hR hmap
  obtain ⟨kind, row, pixel⟩ := f
  simp only [Flt.val] at HR1 HR2 HEx HOn HWF ⊢
  simp only [] at HRD
  go_enter Tryd.func7, Tryd.ntmps7
  go_wp2_with fail
  rw [← HWF.out]
  go_wp2_with (first
    | (go_at_call 8; refine HFit.out.mono ?_; rintro e w1 ⟨rfl, rfl⟩)
    | (go_at_call 15; refine HLs.out.mono ?_; rintro e w1 ⟨rfl, rfl⟩; refine Stop.of ?_))
  refine Stop.go ?_
  clear hcs
  go_wp2
  go_loopw [7, 31] (fun v i wr => ∃ k : Nat, k ≤ n3 ∧ i = .int .i64 k ∧ TestsO wr wf.heap.size v ((L.take k).map OT) ∧ Below wf.heap.size wf wr) (fun _ i _ => n3 - (intOf i).toNat)
  case atStart => exact ⟨0, Nat.zero_le _, rfl, TestsO.nil _ _, Below.refl _ _⟩
  case round =>
    obtain ⟨k, hk, rfl, hT, hbk⟩ := hrel
    by_cases hlt : k < n3
    · have hkL : k < L.length := by rw [HLN.out]; exact hlt
      obtain ⟨b, off, xa, xn, xc, rfl, hbs, hc0, hxn, hxm, hxi⟩ := HL.out k hkL
      have hc := (hbk.cell (p := ⟨b, off + k, none⟩) hbs).trans hc0
      have hbs' : b < wr.heap.size := Nat.lt_of_lt_of_le hbs hbk.size
      have htk : (L.take (k + 1)).map OT = (L.take k).map OT ++ [OT (L[k]'hkL)] := by rw [List.take_succ_eq_append_getElem hkL, List.map_append]; rfl
      obtain ⟨x, hx⟩ : ∃ x, x = L[k]'hkL := ⟨_, rfl⟩
      rw [← hx] at hxn hxi htk
      have hlen : ((L.take k).map OT).length = k := by rw [List.length_map, List.length_take]; omega
      have HLEN := hid hlen
      have HTK := hid htk
      have HXI := hid (And.intro hxn hxi)
      have HT := hid hT
      have HBK := hid hbk
      obtain ⟨f0, f1, f2⟩ := HRD.out wr hbk
      have HA1 := hid (HR1.out wr hbk xa xn xc x hxn hxm (hxi.below hbk))
      by_cases hz : RE x = 0
      · have HA2 := hid (HR2.out wr hbk xa xn xc x hxn hxm (hxi.below hbk) hz)
        obtain ⟨ta, tc, e1⟩ := hT.slice
        rw [hlen] at e1
        subst e1
        have HXM := hid hxm
        clear HA1 hz hT hxn hxi htk hlen hx hc0 hxm hbk
        go_wp2_with (go_at_call 32; refine HA2.out.mono ?_; rintro e w4 ⟨v4, base4, rfl, hbase4, hown4, hb4⟩; refine Stop.of ?_)
        refine Stop.go ?_
        obtain ⟨va4, vc4, rfl⟩ := ownsRow_slice hown4
        have hel1 : ElemI 3 w4 wf.heap.size (fun _ => True) (.slice xa xn xc) x := ElemI.old HXI.out.1 HXM.out (fun j hj => by
          obtain ⟨bb, oo, e1, e2, e3⟩ := HXI.out.2 j hj
          have hb' := chain HBK.out hb4
          exact ⟨bb, oo, e1, e2, Nat.lt_of_lt_of_le e2 hb'.size, (hb'.cell (p := ⟨bb, _, none⟩) e2).trans e3⟩) (fun _ _ => trivial)
        have hel2 : ElemI 3 w4 wf.heap.size (fun _ => True) (.slice va4 n vc4) (R x) := ElemI.own' hown4 rfl (HRL.out x) (by unfold maxLen; omega) (fun _ _ => trivial)
        obtain ⟨xs, ho, he⟩ := HT.out.below hb4
        rw [HLEN.out] at ho
        have HO := hid ho
        have HE := hid he
        have HEL1 := hid hel1
        have HEL2 := hid hel2
        have HB4 := hid (chain HBK.out hb4)
        have M1 := hid (show k + 1 ≤ maxLen by unfold maxLen; omega)
        have M2 := hid (show (k + 1) * 48 ≤ 140737488355328 by omega)
        have M3 := hid (show wf.heap.size ≤ (w4.alloc (.cells #[.slice xa xn xc, .slice va4 n vc4] 56)).heap.size by have := HB4.out.size; simp; omega)
        have HN2 := hid (show ∀ ad, (some ⟨w4.heap.size, 0, none⟩ : Option Addr) = some ad → ∀ j u, [Value.slice xa xn xc, .slice va4 n vc4][j]? = some u → (w4.alloc (.cells #[.slice xa xn xc, .slice va4 n vc4] 56)).cell? (ad.add j) = some u from by
          intro ad e j u hu
          cases e
          match j, hu with
          | 0, hu => rw [Addr.add_lit, World.cell?_alloc_at _ _ _ _ rfl]; simpa using hu
          | 1, hu => rw [Addr.add_lit, World.cell?_alloc_at _ _ _ _ rfl]; simpa using hu)
        have HO2 := hid (show ∀ u ∈ [Value.slice xa xn xc, .slice va4 n vc4], u.oneCell' = true from by intro u hu; simp at hu; rcases hu with rfl | rfl <;> rfl)
        clear ho he hel1 hel2 hown4 hb4 hbase4
        go_wp2_with (at_builtin; refine wpList_app _ rfl (.tmp 45) (.tmp 49) 43 rfl wf.heap.size 56 (.agg #[.slice none 0 0, .slice none 0 0]) 2 48 Tryd.underlying43 info_test rfl (by decide) (.slice ta k tc) k xs rfl (HO.out.alloc _) (some ⟨w4.heap.size, 0, none⟩) 1 1 [.slice xa xn xc, .slice va4 n vc4] rfl rfl no_none HN2.out HO2.out M1.out M2.out M3.out ?_; refine Stop.of ?_)
        refine Stop.go ?_
        intro a5 c5 w5 own5 g5
        have hT5 : TestsO w5 wf.heap.size (.slice a5 (k + 1) c5) ((L.take k).map OT ++ [OT x]) := by
          refine TestsO.snoc (us := .slice xa xn xc) (ur := .slice va4 n vc4) (W := w4) (w1 := w4.alloc (.cells #[.slice xa xn xc, .slice va4 n vc4] 56)) (v := .slice ta k tc) (by rw [HLEN.out]; exact HO.out) HE.out (by rw [HOT.out]; exact HEL1.out) (by rw [HOT.out]; exact HEL2.out) ((Below.refl _ w4).alloc (Nat.le_refl _) _) g5 (by rw [HLEN.out]; exact own5)
        have hb5 : Below wf.heap.size wf w5 := (HB4.out.alloc HB4.out.size _).grown g5 M3.out (fun q hq => (HO.out.lt q hq).1)
        go_wp2
        exact ⟨⟨k + 1, by omega, by go_num, by rw [HTK.out]; exact hT5, hb5⟩, by simp [intOf]; omega⟩
      · obtain ⟨E, hE⟩ : ∃ E, E = RE x := ⟨_, rfl⟩
        rw [← hE] at HA1 hz
        have hz2 : (E != 0) = true := by simpa using hz
        clear hz hE hT hxn hxi htk hlen hx hc0
        go_wp2_with (first
          | (go_at_call 32; refine HA1.out.mono ?_; rintro e w4 ⟨va4, vc4, rfl, hI4, hb4⟩)
          | (go_at_call 9; refine (HAw.out _ (chain HBK.out hb4)).mono ?_; rintro e w12 ⟨rfl, hb12⟩))
        go_ret
        exact ⟨rfl, HB.out _ (chain (chain HBK.out hb4) hb12)⟩
    · obtain rfl : k = n3 := by omega
      rw [← HLN.out, List.take_length] at hT
      obtain ⟨T, hTe⟩ : ∃ T, T = L.map OT := ⟨_, rfl⟩
      rw [← hTe] at hT HOW
      have hTl : T.length = k := by rw [hTe, List.length_map, HLN.out]
      obtain ⟨ta, tc, e1, _, hTA⟩ := hT.reads
      rw [hTl] at e1
      subst e1
      have hkm : k ≤ maxLen := by unfold maxLen; omega
      have HX := hid (HEx.out wr hbk ta k tc T hTl hkm hTA)
      have HW2 := hid (fun (W : World) (hb : Below wr.heap.size wr W) => HWh.out W (chain hbk hb) ta k tc T hTl hkm (hTA.below hb))
      have HBK := hid hbk
      obtain ⟨f0, f1, f2⟩ := HRD.out wr hbk
      have HEOT := hid (HEO.out T)
      have HEBT := hid (HEB.out T)
      obtain ⟨E, hE⟩ : ∃ E, E = EE T := ⟨_, rfl⟩
      obtain ⟨B, hB⟩ : ∃ E, E = EB T := ⟨_, rfl⟩
      rw [← hE, ← hB] at HX HEBT
      rw [← hE] at HEOT
      clear hE hB hT hTe hTl hTA hbk HR1 HR2 HL HOT HRL HEO HEB
      by_cases hz : E = 0
      · subst hz
        obtain ⟨hv, hok⟩ := HEOT.out rfl
        obtain ⟨hex, hg⟩ := HOW.out hv
        have hBt : B = true := by rw [HEBT.out rfl]; exact hex
        subst hBt
        have hwE : whichE M T = 0 ∧ whichL M T = whichF M T := by unfold whichE whichL; rw [hok]; simp
        rw [hwE.1, hwE.2] at HW2
        obtain ⟨W9, hW9⟩ : ∃ l, l = whichF M T := ⟨_, rfl⟩
        rw [← hW9] at HW2 hg
        have HG := hid hg
        clear hv hok hex hg hwE hW9 HEOT HEBT HOW
        go_wp2_with (first
          | (go_at_call 38; refine HX.out.mono ?_; rintro e w4 ⟨rfl, hb4⟩)
          | (go_at_call 39; refine (HW2.out _ hb4).mono ?_; rintro e w5 ⟨v5, base5, rfl, hbase5, hF5, hb5⟩; refine Stop.of ?_))
        refine Stop.go ?_
        obtain ⟨la, lc, rfl, hlm, hFA⟩ := hF5.reads
        obtain ⟨q, hq⟩ : ∃ q, q = W9.length := ⟨_, rfl⟩
        rw [← hq] at hlm ⊢
        have HQ := hid hq
        have HFA := hid hFA
        have HB5 := hid (chain HBK.out (chain hb4 hb5))
        unfold maxLen at hlm
        clear hF5 hFA hbase5 hq hb4 hb5 f0 f1 f2
        go_wp2
        go_loopw [76] (fun i wr => ∃ j : Nat, j ≤ q ∧ i = .int .i64 j ∧ Below w5.heap.size w5 wr ∧ Hid (∀ g (hg : g < W9.length), g < j → ¬ (OE W9[g] = 0 ∧ OB W9[g] = true))) (fun i _ => q - (intOf i).toNat)
        case atStart => exact ⟨0, Nat.zero_le _, rfl, Below.refl _ _, hid (fun g _ h => by omega)⟩
        case round =>
          obtain ⟨j, hj, rfl, hbj, hno⟩ := hrel
          by_cases hjlt : j < q
          · have hjW : j < W9.length := by rw [← HQ.out]; exact hjlt
            obtain ⟨b2, off2, rfl, hbs2, g0, g1, g2⟩ := (HFA.out.below hbj) j hjW
            obtain ⟨g, hg⟩ : ∃ g, g = W9[j]'hjW := ⟨_, rfl⟩
            rw [← hg] at g0 g1 g2
            have hbg : Below wf.heap.size wf (wr.alloc (.cells #[.int .i64 g.kind, .int .i64 g.row, .int .i64 g.pixel] 34)) := (chain HB5.out hbj).alloc (chain HB5.out hbj).size _
            have HO := hid (HOn.out _ hbg g)
            obtain ⟨f0, f1, f2⟩ := HRD.out _ hbg
            have HNo := hid (show ∀ h : ¬ (OE g = 0 ∧ OB g = true), ∀ g' (hg' : g' < W9.length), g' < j + 1 → ¬ (OE W9[g'] = 0 ∧ OB W9[g'] = true) from fun h g' hg' hlt => by
              rcases Nat.lt_or_ge g' j with h' | h'
              · exact hno.out g' hg' h'
              · obtain rfl : g' = j := by omega
                rw [← hg]; exact h)
            obtain ⟨E, hE⟩ : ∃ E, E = OE g := ⟨_, rfl⟩
            obtain ⟨B, hB⟩ : ∃ E, E = OB g := ⟨_, rfl⟩
            rw [← hE, ← hB] at HO HNo
            have HBG := hid hbg
            have HBJ := hid hbj
            have hsb : w.heap.size < wr.heap.size := by have := HB5.out.size; have := hbj.size; have : wf.heap.size = w.heap.size + 1 := by rw [HWF.out]; simp
                                                        omega
            obtain ⟨k0, k1, k2⟩ := HRD.out _ (chain HB5.out hbj)
            clear hg hE hB hbg hbj hjW
            obtain ⟨gk, gr, gp⟩ := g
            simp only [Flt.val] at HO HBG
            simp only [] at g0 g1 g2 f0 f1 f2
            by_cases hz : E = 0
            · subst hz
              cases B
              · go_wp2_with (go_at_call 34; refine HO.out.mono ?_; rintro e w6 ⟨rfl, hb6⟩)
                exact ⟨⟨j + 1, by omega, by go_num, (HBJ.out.alloc HBJ.out.size _).trans (hb6.mono (by have := HBJ.out.size; simp; omega)), hid (HNo.out (by simp))⟩, by simp [intOf]; omega⟩
              · go_wp2_with (first
                  | (go_at_call 34; refine HO.out.mono ?_; rintro e w6 ⟨rfl, hb6⟩)
                  | (go_at_call 9; refine (HAw.out _ (chain HBG.out hb6)).mono ?_; rintro e w12 ⟨rfl, hb12⟩))
                go_ret
                exact ⟨rfl, HB.out _ (chain (chain HBG.out hb6) hb12)⟩
            · have hz2 : (E == 0) = false := by simpa using hz
              have HZ := hid hz
              clear hz
              go_wp2_with (go_at_call 34; refine HO.out.mono ?_; rintro e w6 ⟨rfl, hb6⟩)
              exact ⟨⟨j + 1, by omega, by go_num, (HBJ.out.alloc HBJ.out.size _).trans (hb6.mono (by have := HBJ.out.size; simp; omega)), hid (HNo.out (fun h => HZ.out h.1))⟩, by simp [intOf]; omega⟩
          · exfalso
            obtain ⟨g, hgm, h1, h2⟩ := HG.out
            obtain ⟨i, hi, rfl⟩ := List.mem_iff_getElem.1 hgm
            exact hno.out i hi (by have := HQ.out; omega) ⟨h1, h2⟩
      · have hz2 : (E != 0) = true := by simpa using hz
        clear hz HW2 HEOT HEBT HOW
        go_wp2_with (first
          | (go_at_call 38; refine HX.out.mono ?_; rintro e w4 ⟨rfl, hb4⟩)
          | (go_at_call 9; refine (HAw.out _ (chain HBK.out hb4)).mono ?_; rintro e w12 ⟨rfl, hb12⟩))
        go_ret
        exact ⟨rfl, HB.out _ (chain (chain HBK.out hb4) hb12)⟩
end Go.Proofs.YthaampmdponhbaaDoor

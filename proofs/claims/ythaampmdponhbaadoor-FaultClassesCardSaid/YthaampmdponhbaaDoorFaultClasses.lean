/- The statement FaultClasses: the walk of the law. -/
import Derived.Test.YthaampmdponhbaaDoorFltAH
import Derived.Test.YthaampmdponhbaaDoorFaultAll
namespace Go.Proofs.YthaampmdponhbaaDoor
open Go.RowKit
set_option linter.unusedVariables false

theorem clsL_len {M : Mask} {L : List (List Int)} : (clsL M L).length ≤ maxLen := by
  unfold clsL
  split
  · rename_i h; rw [classF_length]; have := all_240 (listedE_ok h).1; unfold maxLen; omega
  · simp

set_option maxRecDepth 100000 in
set_option maxHeartbeats 8000000 in
theorem faultClasses_c (w : World) (ht : Tab w) (a : Option Addr) (n cap : Nat) (M : Mask) (hn : M.length = n) (hm : n ≤ maxLen) (H : RowsAt w a M) (f g : Flt)
    (a3 : Option Addr) (n3 cap3 : Nat) (L : List (List Int)) (hn3 : L.length = n3) (hm3 : n3 ≤ maxLen) (H3 : RowsAt w a3 L)
    (a4 : Option Addr) (n4 cap4 : Nat) (x : List Int) (hn4 : x.length = n4) (hm4 : n4 ≤ maxLen) (H4 : IntsAt w a4 x) :
    Calls Tryd.prog 4 #[.slice a n cap, f.val, g.val, .slice a3 n3 cap3, .slice a4 n4 cap4] w fun e w' => e = .returned (.bool true) ∧ Below w.heap.size w w' := by
  obtain ⟨wg, hwg, hb0, hcells⟩ := fltBox2 w f g
  have HSm := hid (small_c wg a n cap M hn hm (H.below hb0))
  have HLs := hid (lists_c wg a3 n3 cap3 L hn3 hm3 (H3.below hb0) 5 (by omega))
  have HAw := hid (fun (W : World) (hb : Below wg.heap.size wg W) => awake_c W (ht.below (chain hb0 hb)))
  have HP1 := hid (fun (W : World) (hb : Below wg.heap.size wg W) (f g : Flt) => Part_c W (ht.below (chain hb0 hb)) a n cap M hn hm (H.below (chain hb0 hb)) f g a3 n3 cap3 L hn3 hm3 (H3.below (chain hb0 hb)))
  have HP2 := hid (fun (W : World) (hb : Below wg.heap.size wg W) => refPart2_c W a n cap M hn hm (H.below (chain hb0 hb)) f g a3 n3 cap3 L hn3 hm3 (H3.below (chain hb0 hb)))
  have HC1 := hid (fun (W : World) (hb : Below wg.heap.size wg W) => Classes_c W (ht.below (chain hb0 hb)) a n cap M hn hm (H.below (chain hb0 hb)) a3 n3 cap3 L hn3 hm3 (H3.below (chain hb0 hb)))
  have HC2 := hid (fun (W : World) (hb : Below wg.heap.size wg W) => refClasses2_c W a n cap M hn hm (H.below (chain hb0 hb)) a3 n3 cap3 L hn3 hm3 (H3.below (chain hb0 hb)))
  have HE1 := hid (fun (W : World) (hb : Below wg.heap.size wg W) => Enough_c W (ht.below (chain hb0 hb)) a n cap M hn hm (H.below (chain hb0 hb)) a3 n3 cap3 L hn3 hm3 (H3.below (chain hb0 hb)))
  have HE2 := hid (fun (W : World) (hb : Below wg.heap.size wg W) => refEnough_c W a n cap M hn hm (H.below (chain hb0 hb)) a3 n3 cap3 L hn3 hm3 (H3.below (chain hb0 hb)))
  have HA1 := hid (fun (W : World) (hb : Below wg.heap.size wg W) => All_c W a n cap M hn hm (H.below (chain hb0 hb)))
  have HC3 := hid (fun (W : World) (hb : Below wg.heap.size wg W) (a5 : Option Addr) (n5 c5 : Nat) (h5 : (L ++ [x]).length = n5) (hm5 : n5 ≤ maxLen) (H5 : RowsAt W a5 (L ++ [x])) => Classes_c W (ht.below (chain hb0 hb)) a n cap M hn hm (H.below (chain hb0 hb)) a5 n5 c5 (L ++ [x]) h5 hm5 H5)
  have HL := hid (H3.below hb0)
  have HX := hid (H4.below hb0)
  have HLN := hid hn3
  have HXN := hid hn4
  have HC := hid hcells
  have HB := hid (fun (W : World) (hb : Below wg.heap.size wg W) => chain hb0 hb)
  have HWG := hid hwg
  unfold maxLen at hm hm3 hm4
  clear hn H hn3 H3 hn4 H4 hcells hb0 hwg ht
  by_cases hfit : smallB M = true ∧ fitL L (5 : Nat) = true ∧ n4 ≤ 20
  · obtain ⟨h1, h2, h3⟩ := hfit
    rw [h1] at HSm
    rw [h2] at HLs
    clear h1 h2
    obtain ⟨PB, hPB⟩ : ∃ B, B = partB M f g L := ⟨_, rfl⟩
    obtain ⟨PE, hPE⟩ : ∃ E, E = partE M f g L := ⟨_, rfl⟩
    obtain ⟨EB, hEB⟩ : ∃ B, B = enoughB M L := ⟨_, rfl⟩
    have HPf := hid (fun (W : World) (hb : Below wg.heap.size wg W) => HP1.out W hb f g)
    rw [← hPB, ← hPE] at HPf HP2
    rw [← hEB] at HE1 HE2
    obtain ⟨CL, hCL⟩ : ∃ l, l = clsL M L := ⟨_, rfl⟩
    have hclm : CL.length ≤ maxLen := by rw [hCL]; exact clsL_len
    rw [← hCL] at HC1 HC2
    obtain ⟨q, hq⟩ : ∃ q, q = CL.length := ⟨_, rfl⟩
    rw [← hq] at HC1 HC2 hclm
    have HQ := hid hq
    have HCL := hid hCL
    obtain ⟨LE, hLE⟩ : ∃ E, E = listedE M L := ⟨_, rfl⟩
    rw [← hLE] at HC1 HC2 HE1 HE2
    have HLE := hid hLE
    clear hPB hPE hEB hq hCL hLE
    obtain ⟨kind, row, pixel⟩ := f
    obtain ⟨gk, gr, gp⟩ := g
    simp only [Flt.val] at HPf HP2 HC HWG ⊢
    go_enter Tryd.func4, Tryd.ntmps4
    go_wp2_with fail
    rw [← HWG.out]
    have hcs := HC.out wg (Below.refl _ _)
    obtain ⟨⟨f0, f1, f2⟩, f3, f4, f5⟩ := hcs
    go_wp2_with (first
      | (go_at_call 14; refine HSm.out.mono ?_; rintro e w1 ⟨rfl, rfl⟩)
      | (go_at_call 15; refine HLs.out.mono ?_; rintro e w1 ⟨rfl, rfl⟩)
      | (go_at_call 16; refine (HPf.out _ (Below.refl _ _)).mono ?_; rintro e w1 ⟨rfl, hb1⟩; refine Stop.of ?_))
    refine Stop.go ?_
    clear f0 f1 f2 f3 f4 f5
    obtain ⟨⟨f0, f1, f2⟩, f3, f4, f5⟩ := HC.out w1 hb1
    go_wp2_with (go_at_call 17; refine (HP2.out _ hb1).mono ?_; rintro e w2 ⟨rfl, hb2⟩; refine Stop.of ?_)
    refine Stop.go ?_
    clear f0 f1 f2 f3 f4 f5
    have hbw2 := chain hb1 hb2
    go_wp2_with (go_at_call 18; refine (HC1.out _ hbw2).mono ?_; rintro e w3 ⟨v3, base3, rfl, hbase3, ho3, hb3⟩; refine Stop.of ?_)
    refine Stop.go ?_
    have hbw3 := chain hbw2 hb3
    obtain ⟨va3, vc3, rfl, hI3⟩ := ints_own ho3 HQ.out.symm
    have HI3 := hid hI3
    clear ho3 hI3 hbase3
    go_wp2_with (go_at_call 19; refine (HC2.out _ hbw3).mono ?_; rintro e w4 ⟨v4, base4, rfl, hbase4, ho4, hb4⟩; refine Stop.of ?_)
    refine Stop.go ?_
    have hbw4 := chain hbw3 hb4
    obtain ⟨va4, vc4, rfl, hI4⟩ := ints_own ho4 HQ.out.symm
    have HI4 := hid hI4
    have HI34 := hid (HI3.out.below hb4)
    clear ho4 hI4 hbase4 HI3
    go_wp2_with (go_at_call 13; refine (HE1.out _ hbw4).mono ?_; rintro e w5 ⟨rfl, hb5⟩; refine Stop.of ?_)
    refine Stop.go ?_
    have hbw5 := chain hbw4 hb5
    go_wp2_with (go_at_call 20; refine (HE2.out _ hbw5).mono ?_; rintro e w6 ⟨rfl, hb6⟩; refine Stop.of ?_)
    refine Stop.go ?_
    have hbw6 := chain hbw5 hb6
    have HSI := hid (sameInts_t w6 va3 va4 q vc3 vc4 CL HQ.out.symm hclm (HI34.out.below (chain hb5 hb6)) (HI4.out.below (chain hb5 hb6)))
    have HIA := hid (HI34.out.below (chain hb5 hb6))
    clear HI34 HI4
    by_cases hz : LE = 0
    · subst hz
      have hL0 := HLE.out.symm
      have hok := (listedE_ok hL0).1
      have hp12 := (picsB_iff (listedE_ok hL0).2).1
      have hn12 : n3 ≤ 12 := by have := HLN.out; omega
      have hCF : CL = classF M L := by rw [HCL.out]; unfold clsL; rw [if_pos hL0]
      have hqN : (allF M).length = q := by rw [HQ.out, hCF, classF_length]
      have hq240 : q ≤ 240 := by rw [← hqN]; exact all_240 hok
      have HPT := hid (fun u v (hu : u < (allF M).length) (hv : v < (allF M).length) => class_part hL0 hu hv)
      have HCM := hid (fun u v (hu : u < (allF M).length) (hv : v < (allF M).length) => class_more (M := M) (L := L) (x := x) (u := u) (v := v) hu hv)
      have hAE : maskE M = 0 ∧ allL M = allF M := by unfold maskE allL; rw [hok]; simp
      rw [hAE.1, hAE.2] at HA1
      have hC3 : listedE M (L ++ [x]) = 0 → clsL M (L ++ [x]) = classF M (L ++ [x]) ∧ (classF M (L ++ [x])).length = q := fun h => ⟨by unfold clsL; rw [if_pos h], by rw [classF_length, hqN]⟩
      have HC3L := hid hC3
      rw [← hCF] at HPT HCM
      obtain ⟨A, hA⟩ : ∃ A, A = allF M := ⟨_, rfl⟩
      rw [← hA] at HA1 HPT HCM hqN
      have HAN := hid hqN
      clear hAE hC3 hok hp12 hL0 hqN hA hCF
      go_wp2_with (first
        | (go_at_call 12; refine HSI.out.mono ?_; rintro e w7 ⟨rfl, hb7⟩; have hbw7 := chain hbw6 hb7)
        | (go_at_call 21; refine (HA1.out _ hbw7).mono ?_; rintro e w8 ⟨v8, base8, rfl, hbase8, hF8, hb8⟩; refine Stop.of ?_))
      refine Stop.go ?_
      have hbw8 := chain hbw7 hb8
      obtain ⟨va8, vc8, rfl, _, hF⟩ := hF8.reads
      rw [HAN.out]
      have HFA := hid hF
      have HIB := hid (HIA.out.below (chain hb7 hb8))
      have HBW8 := hid hbw8
      clear hF8 hF hbase8 HIA hb1 hb2 hb3 hb4 hb5 hb6 hb7 hb8 hbw2 hbw3 hbw4 hbw5 hbw6 hbw7 hbw8
      go_wp2
      go_loopw [134] (fun i wr => ∃ u : Nat, u ≤ q ∧ i = .int .i64 u ∧ Below w8.heap.size w8 wr) (fun i _ => q - (intOf i).toNat)
      case atStart => exact ⟨0, Nat.zero_le _, rfl, Below.refl _ _⟩
      case round =>
        obtain ⟨u, hu, rfl, hbu⟩ := hrel
        by_cases hult : u < q
        · obtain ⟨wo, hwo⟩ : ∃ wo, wo = wr := ⟨_, rfl⟩
          subst hwo
          go_wp2
          go_loopw [138] (fun i wr => ∃ v : Nat, v ≤ u ∧ i = .int .i64 v ∧ Below w8.heap.size w8 wr) (fun i _ => u - (intOf i).toNat)
          case atStart => exact ⟨0, Nat.zero_le _, rfl, hbu⟩
          case round =>
            clear hbu
            obtain ⟨v, hv, rfl, hbv⟩ := hrel
            by_cases hvlt : v < u
            · have huA : u < A.length := by rw [HAN.out]; exact hult
              have hvA : v < A.length := by rw [HAN.out]; omega
              obtain ⟨b, off, e1, hbs, g0, g1, g2⟩ := (HFA.out.below hbv) u huA
              obtain ⟨b', off', e2, hbs', k0, k1, k2⟩ := (HFA.out.below hbv) v hvA
              subst e1
              cases e2
              have huC : u < CL.length := by rw [← HQ.out]; exact hult
              have hvC : v < CL.length := by rw [← HQ.out]; omega
              obtain ⟨b3, off3, e3, hbs3, c0⟩ := (HIB.out.below hbv) u huC
              obtain ⟨b4, off4, e4, hbs4, c1⟩ := (HIB.out.below hbv) v hvC
              subst e3
              cases e4
              obtain ⟨hPE, hPB⟩ := HPT.out u v huA hvA
              have HPuv := hid (fun (W : World) (hb : Below wr.heap.size wr W) => HP1.out W (chain HBW8.out (chain hbv hb)) (A[u]'huA) (A[v]'hvA))
              rw [hPE, hPB] at HPuv
              obtain ⟨U, hU⟩ : ∃ U, U = A[u]'huA := ⟨_, rfl⟩
              obtain ⟨V, hV⟩ : ∃ V, V = A[v]'hvA := ⟨_, rfl⟩
              rw [← hU, ← hV] at HPuv
              rw [← hU] at g0 g1 g2
              rw [← hV] at k0 k1 k2
              obtain ⟨X, hX⟩ : ∃ X, X = CL[u]?.getD 0 := ⟨_, rfl⟩
              obtain ⟨Y, hY⟩ : ∃ Y, Y = CL[v]?.getD 0 := ⟨_, rfl⟩
              rw [← hX, ← hY] at HPuv
              rw [← hX] at c0
              rw [← hY] at c1
              have hvq : v < q := by omega
              have HBV := hid hbv
              have l0 := lift_cell hbs g0
              have l1 := lift_cell hbs g1
              have l2 := lift_cell hbs g2
              have l3 := lift_cell hbs k0
              have l4 := lift_cell hbs k1
              have l5 := lift_cell hbs k2
              have hlb := hid (fun X => lift_below wr X)
              have HCU := hid (show ∀ Z, (lift wr Z).cell? ⟨b3, off3 + u, none⟩ = some (.int .i64 X) from lift_cell hbs3 c0)
              have HCV := hid (show ∀ Z, (lift wr Z).cell? ⟨b3, off3 + v, none⟩ = some (.int .i64 Y) from lift_cell hbs3 c1)
              clear hPE hPB hU hV hX hY huA hvA huC hvC hbv g0 g1 g2 k0 k1 k2 c0 c1
              obtain ⟨uk, ur, up⟩ := U
              obtain ⟨vk, vr, vp⟩ := V
              simp only [Flt.val] at HPuv l0 l1 l2 l3 l4 l5
              go_wp2
              refine region_lift (by kernel_rfl) (by kernel_rfl) ?_
              repeat (go_big_quiet_step ((go_at_call 16; exact lift_calls (HPuv.out _ (hlb.out _)))))
              refine wpQuiet_nil ?_
              rintro _ ⟨Z, rfl⟩
              have c0 := HCU.out Z
              have c1 := HCV.out Z
              have hbz := chain HBV.out (hlb.out Z)
              clear l0 l1 l2 l3 l4 l5 HCU HCV
              obtain ⟨wz, hwz⟩ : ∃ wz, wz = lift wr Z := ⟨_, rfl⟩
              rw [← hwz] at c0 c1 hbz ⊢
              clear hwz hlb
              by_cases hxy : X = Y
              · subst hxy
                have hd : decide (X ≠ X) = false := by simp
                go_wp2
                go_quiet (fail)
                go_wp2
                exact ⟨⟨v + 1, by omega, by go_num, below_drewN hbz _⟩, by simp [intOf]; omega⟩
              · have hd : decide (X ≠ Y) = true := by simpa using hxy
                have hd2 : (X != Y) = true := by simpa using hxy
                have hd3 : decide (X = Y) = false := by simpa using hxy
                clear hxy
                go_wp2
                go_quiet (fail)
                go_wp2
                exact ⟨⟨v + 1, by omega, by go_num, below_drewN hbz _⟩, by simp [intOf]; omega⟩
            · obtain rfl : v = u := by omega
              go_wp2
              exact ⟨⟨v + 1, by omega, by go_num, hbv⟩, by simp [intOf]; omega⟩
        · obtain rfl : u = q := by omega
          have hb9 : Below w8.heap.size w8 (wr.alloc (.cells #[] 30)) := hbu.alloc hbu.size _
          obtain ⟨xs, hXS, hnews, hnone⟩ := heads_of_rows HL.out
          have M := World.ownsRow_made (base := wr.heap.size) (e := 30) (size := 1) wr #[] 0 (Nat.le_refl _) (Nat.zero_le _) rfl
          have HM := hid M
          have HXS := hid (fun (W : World) (hb : Below wg.heap.size wg W) => hXS.below hb)
          have HNews := hid (fun (W : World) (hb : Below wg.heap.size wg W) (ad : Addr) (e : a3 = some ad) (j : Nat) (u : Value) (hu : xs[j]? = some u) => show W.cell? (ad.add j) = some u from (hb.cell (p := ad.add j) (cell_in (hnews ad e j u hu))).trans (hnews ad e j u hu))
          have HNone := hid (show a3 = none → n3 = 0 from fun h => by rw [← HLN.out]; exact hnone h)
          have HXL := hid (show xs.length = n3 * 1 by rw [hXS.1, HLN.out]; omega)
          have HXO := hid hXS.oneCell
          have M1 := hid (show 0 + n3 ≤ maxLen by unfold maxLen; omega)
          have M2 := hid (show (0 + n3) * 24 ≤ 140737488355328 by omega)
          have HB9 := hid hb9
          have HBU := hid hbu
          clear hXS hnews hnone M hb9 hbu
          go_wp2_with (at_builtin; refine Stop.of ?_)
          refine Stop.go ?_
          refine wpList_app _ rfl (.tmp 174) (.tmp 175) 22 rfl wr.heap.size 30 (.slice none 0 0) 1 24 Tryd.underlying22 info_ints rfl Nat.one_pos (.slice (some ⟨wr.heap.size, 0, none⟩) 0 0) 0 [] rfl HM.out a3 n3 cap3 xs rfl HXL.out HNone.out (HNews.out _ (chain HBW8.out HB9.out)) HXO.out M1.out M2.out (by simp) ?_
          intro a9 c9 w9 own9 g9
          rw [Nat.zero_add, List.nil_append] at own9
          rw [Nat.zero_add]
          have hb9 : Below w8.heap.size w8 w9 := HB9.out.grown g9 HB9.out.size (fun k hk => by cases hk; exact HBU.out.size)
          have hsz9 : wr.heap.size ≤ w9.heap.size := by have := g9.size; simp at this; omega
          have HO9 := hid own9
          have HB99 := hid hb9
          have N1 := hid (show n3 + 1 ≤ maxLen by unfold maxLen; omega)
          have N2 := hid (show (n3 + 1) * 24 ≤ 140737488355328 by omega)
          have N3 := hid (show wr.heap.size ≤ (w9.alloc (.cells #[.slice a4 n4 cap4] 30)).heap.size by simp; omega)
          clear own9 hb9 g9
          go_wp2_with (at_builtin; refine Stop.of ?_)
          refine Stop.go ?_
          refine wpList_app _ rfl (.tmp 176) (.tmp 178) 22 rfl wr.heap.size 30 (.slice none 0 0) 1 24 Tryd.underlying22 info_ints rfl Nat.one_pos (.slice a9 n3 c9) n3 xs rfl (HO9.out.alloc _) (some ⟨w9.heap.size, 0, none⟩) 1 1 [.slice a4 n4 cap4] rfl rfl no_none (one_news w9 _ _) (slice_oneCell _ _ _) N1.out N2.out N3.out ?_
          intro a10 c10 w10 own10 g10
          have hb10 : Below w8.heap.size w8 w10 := (HB99.out.alloc HB99.out.size _).grown g10 (by have := HB99.out.size; simp; omega) (fun k hk => Nat.le_trans HBU.out.size ((HO9.out.lt k hk).1))
          have hbw10 := chain HBW8.out hb10
          have hR10 : RowsAt w10 a10 (L ++ [x]) := rows_of_own own10 ((HXS.out _ hbw10).append (HeadV.one HXN.out (show n4 ≤ maxLen by unfold maxLen; omega) (HX.out.below hbw10))) (by simp [HLN.out])
          have HCl := hid (HC3.out w10 hbw10 a10 (n3 + 1) c10 (by simp [HLN.out]) N1.out hR10)
          have HB10 := hid hb10
          have HBW10 := hid hbw10
          have HIB10 := hid (HIB.out.below hb10)
          clear own10 g10 hb10 hbw10 hR10
          by_cases hz3 : listedE M (L ++ [x]) = 0
          · obtain ⟨hcl3, hln3⟩ := HC3L.out hz3
            rw [hz3, hcl3] at HCl
            obtain ⟨C3, hC3⟩ : ∃ l, l = classF M (L ++ [x]) := ⟨_, rfl⟩
            rw [← hC3] at HCl hln3 HCM
            have HLn3 := hid hln3
            rw [hln3] at HCl
            clear hz3 hcl3 hC3 hln3
            go_wp2_with (go_at_call 18; refine HCl.out.mono ?_; rintro e w11 ⟨v11, base11, rfl, hbase11, ho11, hb11⟩; refine Stop.of ?_)
            refine Stop.go ?_
            obtain ⟨va11, vc11, rfl, hI11⟩ := ints_own ho11 HLn3.out
            have HI11 := hid hI11
            have HIB11 := hid (HIB10.out.below hb11)
            have HBW11 := hid (chain HBW10.out hb11)
            clear ho11 hI11 hbase11 hb11
            go_wp2
            go_loopw [188] (fun i wr => ∃ s : Nat, s ≤ u ∧ i = .int .i64 s ∧ Below w11.heap.size w11 wr) (fun i _ => u - (intOf i).toNat)
            case atStart => exact ⟨0, Nat.zero_le _, rfl, Below.refl _ _⟩
            case round =>
              obtain ⟨s, hs, rfl, hbs⟩ := hrel
              by_cases hslt : s < u
              · obtain ⟨wo, hwo⟩ : ∃ wo, wo = wr := ⟨_, rfl⟩
                subst hwo
                go_wp2
                go_loopw [192] (fun i wr => ∃ v : Nat, v ≤ s ∧ i = .int .i64 v ∧ Below w11.heap.size w11 wr) (fun i _ => s - (intOf i).toNat)
                case atStart => exact ⟨0, Nat.zero_le _, rfl, hbs⟩
                case round =>
                  clear hbs
                  obtain ⟨v, hv, rfl, hbv⟩ := hrel
                  by_cases hvlt : v < s
                  · have huA : s < A.length := by rw [HAN.out]; exact hslt
                    have hvA : v < A.length := by rw [HAN.out]; omega
                    have huC : s < CL.length := by rw [← HQ.out]; exact hslt
                    have hvC : v < CL.length := by rw [← HQ.out]; omega
                    have huC3 : s < C3.length := by rw [HLn3.out]; exact hslt
                    have hvC3 : v < C3.length := by rw [HLn3.out]; omega
                    obtain ⟨b3, off3, e3, hbs3, c0⟩ := (HIB11.out.below hbv) s huC
                    obtain ⟨b4, off4, e4, hbs4, c1⟩ := (HIB11.out.below hbv) v hvC
                    subst e3
                    cases e4
                    obtain ⟨b5, off5, e5, hbs5, c2⟩ := (HI11.out.below hbv) s huC3
                    obtain ⟨b6, off6, e6, hbs6, c3⟩ := (HI11.out.below hbv) v hvC3
                    subst e5
                    cases e6
                    have hmore := HCM.out s v huA hvA
                    obtain ⟨X, hX⟩ : ∃ X, X = CL[s]?.getD 0 := ⟨_, rfl⟩
                    obtain ⟨Y, hY⟩ : ∃ Y, Y = CL[v]?.getD 0 := ⟨_, rfl⟩
                    obtain ⟨X3, hX3⟩ : ∃ X, X = C3[s]?.getD 0 := ⟨_, rfl⟩
                    obtain ⟨Y3, hY3⟩ : ∃ Y, Y = C3[v]?.getD 0 := ⟨_, rfl⟩
                    rw [← hX, ← hY, ← hX3, ← hY3] at hmore
                    rw [← hX] at c0
                    rw [← hY] at c1
                    rw [← hX3] at c2
                    rw [← hY3] at c3
                    have hvu : v < u := by omega
                    have HBV := hid hbv
                    clear hX hY hX3 hY3 huA hvA huC hvC huC3 hvC3 hbv
                    by_cases hxy : X3 = Y3
                    · obtain rfl := hmore hxy
                      subst hxy
                      clear hmore
                      go_wp2
                      go_quiet (fail)
                      go_wp2
                      exact ⟨⟨v + 1, by omega, by go_num, below_drewN HBV.out _⟩, by simp [intOf]; omega⟩
                    · have hd2 : (X3 == Y3) = false := by simpa using hxy
                      clear hxy hmore
                      go_wp2
                      go_quiet (fail)
                      go_wp2
                      exact ⟨⟨v + 1, by omega, by go_num, below_drewN HBV.out _⟩, by simp [intOf]; omega⟩
                  · obtain rfl : v = s := by omega
                    go_wp2
                    exact ⟨⟨v + 1, by omega, by go_num, hbv⟩, by simp [intOf]; omega⟩
              · obtain rfl : s = u := by omega
                have hfin := chain HBW11.out hbs
                have HFin := hid hfin
                clear hfin hbs
                go_wp2_with (go_at_call 9; refine (HAw.out _ HFin.out).mono ?_; rintro e w12 ⟨rfl, hb12⟩)
                go_ret
                exact ⟨rfl, HB.out _ (chain HFin.out hb12)⟩
          · obtain ⟨E3, hE3⟩ : ∃ E, E = listedE M (L ++ [x]) := ⟨_, rfl⟩
            rw [← hE3] at HCl hz3
            have hz4 : (E3 != 0) = true := by simpa using hz3
            clear hz3 hE3
            go_wp2_with (first
              | (go_at_call 18; refine HCl.out.mono ?_; rintro e w11 ⟨v11, base11, rfl, hbase11, ho11, hb11⟩)
              | (go_at_call 9; refine (HAw.out _ (chain HBW10.out hb11)).mono ?_; rintro e w12 ⟨rfl, hb12⟩))
            go_ret
            exact ⟨rfl, HB.out _ (chain (chain HBW10.out hb11) hb12)⟩
    · have hz2 : (LE != 0) = true := by simpa using hz
      clear hz
      go_wp2_with (first
        | (go_at_call 12; refine HSI.out.mono ?_; rintro e w7 ⟨rfl, hb7⟩)
        | (go_at_call 9; refine (HAw.out _ (chain hbw6 hb7)).mono ?_; rintro e w8 ⟨rfl, hb8⟩))
      go_ret
      exact ⟨rfl, HB.out _ (chain (chain hbw6 hb7) hb8)⟩
  · cases h1 : smallB M
    · rw [h1] at HSm
      clear hfit
      obtain ⟨kind, row, pixel⟩ := f
      obtain ⟨gk, gr, gp⟩ := g
      simp only [Flt.val] at HC HWG ⊢
      go_enter Tryd.func4, Tryd.ntmps4
      go_wp2_with fail
      rw [← HWG.out]
      go_wp2_with (first
        | (go_at_call 14; refine HSm.out.mono ?_; rintro e w1 ⟨rfl, rfl⟩)
        | (go_at_call 9; refine (HAw.out _ (Below.refl _ _)).mono ?_; rintro e w12 ⟨rfl, hb12⟩))
      go_ret
      exact ⟨rfl, HB.out _ hb12⟩
    · rw [h1] at HSm
      cases h2 : fitL L (5 : Nat)
      · rw [h2] at HLs
        clear hfit
        obtain ⟨kind, row, pixel⟩ := f
        obtain ⟨gk, gr, gp⟩ := g
        simp only [Flt.val] at HC HWG ⊢
        go_enter Tryd.func4, Tryd.ntmps4
        go_wp2_with fail
        rw [← HWG.out]
        go_wp2_with (first
          | (go_at_call 14; refine HSm.out.mono ?_; rintro e w1 ⟨rfl, rfl⟩)
          | (go_at_call 15; refine HLs.out.mono ?_; rintro e w1 ⟨rfl, rfl⟩)
          | (go_at_call 9; refine (HAw.out _ (Below.refl _ _)).mono ?_; rintro e w12 ⟨rfl, hb12⟩))
        go_ret
        exact ⟨rfl, HB.out _ hb12⟩
      · rw [h2] at HLs
        have h3 : ¬ n4 ≤ 20 := fun h => hfit ⟨h1, h2, h⟩
        clear hfit
        obtain ⟨kind, row, pixel⟩ := f
        obtain ⟨gk, gr, gp⟩ := g
        simp only [Flt.val] at HC HWG ⊢
        go_enter Tryd.func4, Tryd.ntmps4
        go_wp2_with fail
        rw [← HWG.out]
        go_wp2_with (first
          | (go_at_call 14; refine HSm.out.mono ?_; rintro e w1 ⟨rfl, rfl⟩)
          | (go_at_call 15; refine HLs.out.mono ?_; rintro e w1 ⟨rfl, rfl⟩)
          | (go_at_call 9; refine (HAw.out _ (Below.refl _ _)).mono ?_; rintro e w12 ⟨rfl, hb12⟩))
        go_ret
        exact ⟨rfl, HB.out _ hb12⟩
end Go.Proofs.YthaampmdponhbaaDoor

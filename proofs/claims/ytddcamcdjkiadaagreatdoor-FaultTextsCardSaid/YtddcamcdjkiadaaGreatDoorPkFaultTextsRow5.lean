/- Walks and plain laws for FaultTextsRow, part 5. -/
import Derived.ChangeOld
import Derived.Deep.Slices
import Derived.Lib.SmallJoins
import Derived.LaidMore
import Derived.LaidHandle
import Derived.MakeChecks
import Derived.Stop.LaidErr
import Derived.Lib.LaidTab
import Derived.Shelf.Vars
import Derived.HandedShaped
import Derived.Test.YtddcamcdjkiadaaGreatDoorPkFaultTextsRow4
namespace Go.Proofs.YtddcamcdjkiadaaGreatDoor
open Go.RowKit Go.Shelf
set_option linter.unusedVariables false

def fitsT (t : List Tst) : Bool := decide (t.length ≤ 12) && t.all okX
theorem okX_split (x : Tst) : okX x = (!decide (x.shown.length = 0) && !decide (x.read.length = 0) && (x.shown ++ x.read).all inR) := by
  obtain ⟨sh, rd⟩ := x
  cases sh <;> cases rd <;> simp [okX]
theorem okX_isE {t : List Tst} (h : t.all okX = true) : t.any (fun x => x.shown.isEmpty || x.read.isEmpty) = false := by
  rw [List.any_eq_false]
  intro x hx
  have := List.all_eq_true.1 h x hx
  obtain ⟨h1, h2, _⟩ := okX_parts this
  obtain ⟨sh, rd⟩ := x
  cases sh with
  | nil => exact absurd rfl h1
  | cons a l => cases rd with
    | nil => exact absurd rfl h2
    | cons b m => simp
theorem fits_read {t : List Tst} (h : fitsT t = true) (hf : FewT t) : formatT t = t.flatMap lineT ∧ (formatT t).length ≤ 60000 ∧ parseT (formatT t) = (t, 0, 0) := by
  unfold fitsT at h
  simp only [Bool.and_eq_true, decide_eq_true_eq] at h
  have e : formatT t = t.flatMap lineT := by
    unfold formatT
    rw [if_neg]
    rintro (h3 | h3)
    · omega
    · have := okX_isE h.2; rw [this] at h3; cases h3
  have hl : (formatT t).length ≤ 60000 := by
    have hall : ∀ l : List Tst, (∀ x ∈ l, x ∈ t) → (l.flatMap lineT).length ≤ 903 * l.length := by
      intro l
      induction l with
      | nil => simp
      | cons x l ih =>
        intro hx
        have h1 := ih fun y hy => hx y (by simp [hy])
        have h2 := hf.2 x (hx x (by simp))
        have h3 := lineB_len h2.1 h2.2.1 h2.2.2
        rw [List.flatMap_cons, List.length_append, List.length_cons]
        have h4 : (lineT x).length = (lineB x).length + 1 := by simp [lineT]
        omega
    have := hall t fun x hx => hx
    rw [e]
    have := h.1
    omega
  refine ⟨e, hl, ?_⟩
  unfold parseT
  rw [if_neg (by omega), e, parse_lines t [] _ (fun x hx => List.all_eq_true.1 h.2 x hx) (by simpa using h.1) ?_]
  · rfl
  · have : ∀ l : List Tst, l.length ≤ (l.flatMap lineT).length := by
      intro l
      induction l with
      | nil => simp
      | cons x l ih =>
        rw [List.flatMap_cons, List.length_append, List.length_cons]
        have h4 : (lineT x).length = (lineB x).length + 1 := by simp [lineT]
        omega
    exact this t

set_option maxRecDepth 100000 in
set_option maxHeartbeats 8000000 in
theorem faultTexts_c (w : World) (hX : TabX w) (a : Option Addr) (n cap : Nat) (t : List Tst) (hn : t.length = n) (hm : n ≤ maxLen) (H : TestsAt w a t) (h64 : ∀ y ∈ t, (∀ z ∈ y.shown, isInt z) ∧ ∀ z ∈ y.read, isInt z) (s : ByteArray) (hs : s.size ≤ 9223372036854775807) :
    Calls Tryz.prog 3 #[.slice a n cap, .string s] w fun e w' => e = .returned (.bool true) ∧ Below w.heap.size w w' := by
  have HTs := hid (tests_c w a n cap t hn hm H)
  have HAw := hid (fun (W : World) (hb : Below w.heap.size w W) => awake_c W (hX.1.below hb))
  have HN := hid hn
  have HX := hid hX
  have HH := hid H
  cases hft : fitT t
  · rw [hft] at HTs
    clear hn hX H h64 hft
    go_enter Tryz.func3, Tryz.ntmps3
    go_wp2_with (first
      | (go_at_call 5; refine HTs.out.mono ?_; rintro e w1 ⟨rfl, hb1⟩)
      | (go_at_call 6; refine (HAw.out _ hb1).mono ?_; rintro e w12 ⟨rfl, hb12⟩))
    go_ret
    exact ⟨rfl, chain hb1 hb12⟩
  have hfew : FewT t := by
    unfold fitT at hft
    simp only [Bool.and_eq_true, List.all_eq_true, decide_eq_true_eq] at hft
    exact ⟨hft.2, fun x hx => ⟨hft.1 x hx, h64 x hx⟩⟩
  rw [hft] at HTs
  have hn16 : n ≤ 16 := by rw [← hn]; exact hfew.1
  by_cases hmid : 3000 < s.size ∧ s.size ≤ 65536
  · obtain ⟨m1, m2⟩ := hmid
    clear hn hX H h64 hft hfew
    go_enter Tryz.func3, Tryz.ntmps3
    go_wp2_with (first
      | (go_at_call 5; refine HTs.out.mono ?_; rintro e w1 ⟨rfl, hb1⟩)
      | (go_at_call 6; refine (HAw.out _ hb1).mono ?_; rintro e w12 ⟨rfl, hb12⟩))
    go_ret
    exact ⟨rfl, chain hb1 hb12⟩
  have HP1 := hid (fun (W : World) (hb : Below w.heap.size w W) => Parse_c W (hX.below hb) s (by omega) hs)
  have HP2 := hid (fun (W : World) (hb : Below w.heap.size w W) => refParse_c W (hX.below hb) s hs)
  have HF1 := hid (fun (W : World) (hb : Below w.heap.size w W) => Format_c W (hX.1.below hb) a n cap t hn hm (H.below hb) hfew)
  have HF2 := hid (fun (W : World) (hb : Below w.heap.size w W) => refFormat_c W (hX.1.below hb) a n cap t hn hm (H.below hb) hfew)
  have HFR := hid (fun h => fits_read h hfew)
  have HPT := hid (parse_few s.data.toList)
  obtain ⟨PT, hPT⟩ : ∃ P, P = parseT s.data.toList := ⟨_, rfl⟩
  rw [← hPT] at HP1 HP2 HPT
  obtain ⟨⟨TL, p2, p3⟩, hPe⟩ : ∃ P : List Tst × Nat × Int, P = PT := ⟨_, rfl⟩
  subst hPe
  simp only [] at HP1 HP2 HPT
  obtain ⟨F, hF⟩ : ∃ F : ByteArray, F = ⟨(formatT t).toArray⟩ := ⟨_, rfl⟩
  have hFd : F.data.toList = formatT t := by rw [hF]
  have hFz : F.size = (formatT t).length := by rw [hF, bytes_size]
  rw [← hF] at HF1 HF2
  have HFD := hid (And.intro hFd hFz)
  have HFEW := hid hfew
  have hcase : s.size ≤ 3000 ∨ 65536 < s.size := by omega
  have hq1 : (decide (3000 < (s.size : Int)) && decide ((s.size : Int) ≤ 65536)) = false := by simp; omega
  clear hn hX H h64 hft hfew hmid hPT hF hFd hFz hs
  go_enter Tryz.func3, Tryz.ntmps3
  go_wp2_with (first
    | (go_at_call 5; refine HTs.out.mono ?_; rintro e w1 ⟨rfl, hb1⟩)
    | (go_at_call 7; refine (HP1.out _ hb1).mono ?_; rintro e w2 ⟨v2, rfl, hT2, hb2⟩; refine Stop.of ?_))
  all_goals
    refine Stop.go ?_
    have HB2 := hid (chain hb1 hb2)
    obtain ⟨pa, pc, rfl, _, hpT⟩ := hT2.reads
    have HPA := hid hpT
    clear hb1 hb2 hT2 hpT
    go_wp2_with (go_at_call 8; refine (HP2.out _ HB2.out).mono ?_; rintro e w3 ⟨v3, rfl, hT3, hb3⟩; refine Stop.of ?_)
    refine Stop.go ?_
    have HB3 := hid (chain HB2.out hb3)
    obtain ⟨qa, qc, rfl, _, hqT⟩ := hT3.reads
    obtain ⟨tn, htn⟩ : ∃ k, k = TL.length := ⟨_, rfl⟩
    have HST := hid (sameTests_t w3 pa qa TL.length pc qc TL rfl (by have := HPT.out; unfold maxLen; omega) (HPA.out.below hb3) hqT)
    rw [← htn] at HST ⊢
    clear hb3 hT3 hqT htn HPA
    go_wp2_with (go_at_call 9; refine HST.out.mono ?_; rintro e w4 ⟨rfl, hb4⟩; refine Stop.of ?_)
    refine Stop.go ?_
    have HB4 := hid (chain HB3.out hb4)
    clear hb4
    go_wp2_with (go_at_call 10; refine (HF1.out _ HB4.out).mono ?_; rintro e w5 ⟨rfl, hb5⟩; refine Stop.of ?_)
    refine Stop.go ?_
    have HB5 := hid (chain HB4.out hb5)
    clear hb5
    go_wp2_with (go_at_call 11; refine (HF2.out _ HB5.out).mono ?_; rintro e w6 ⟨rfl, hb6⟩; refine Stop.of ?_)
    refine Stop.go ?_
    have HB6 := hid (chain HB5.out hb6)
    clear hb6
    go_wp2
    go_loopw [12, 71] (fun f i wr => ∃ k : Nat, k ≤ n ∧ i = .int .i64 k ∧ f = .bool (decide (n ≤ 12) && (t.take k).all okX) ∧ Below w.heap.size w wr) (fun _ i _ => n - (intOf i).toNat)
    case atStart =>
      refine ⟨0, Nat.zero_le _, rfl, ?_, HB6.out⟩
      simp; omega
    case round =>
      rename World => wo
      obtain ⟨k, hk, rfl, rfl, hb⟩ := hrel
      obtain ⟨P, hP⟩ : ∃ b, b = (decide (n ≤ 12) && (t.take k).all okX) := ⟨_, rfl⟩
      rw [← hP]
      by_cases hlt : k < n
      · have hkl : k < t.length := by rw [HN.out]; exact hlt
        obtain ⟨b, off, sa, sn, sc, ra, rn, rc, rfl, hbs, h0, h1, hsn, hsm, hsi, hrn, hrm, hri⟩ := (HH.out.below hb) k hkl
        obtain ⟨⟨q1, q2⟩, q6, q7⟩ := HFEW.out.2 t[k] (List.getElem_mem hkl)
        have htk : (decide (n ≤ 12) && (t.take (k + 1)).all okX) = (P && okX t[k]) := by
          rw [List.take_succ_eq_append_getElem hkl, List.all_append, hP]; simp [Bool.and_assoc]
        obtain ⟨x, hx⟩ : ∃ x, x = t[k]'hkl := ⟨_, rfl⟩
        rw [← hx] at hsn hsi hrn hri q1 q2 htk
        have HOX := hid (okX_split x)
        rw [hsn, hrn] at HOX
        obtain ⟨wt, hwt, hb0, hcells⟩ := tstBox wo sa ra sn sc rn rc
        have HS := hid (fun (X : World) (hb : Below wt.heap.size wt X) => (hcells X hb).2)
        obtain ⟨_, f0, f1⟩ := hcells wt (Below.refl _ _)
        have HWT := hid hwt
        have HBT := hid (chain hb hb0)
        have HSI := hid (fun (X : World) (hb : Below wt.heap.size wt X) => hsi.below (chain hb0 hb))
        have HRI := hid (fun (X : World) (hb : Below wt.heap.size wt X) => hri.below (chain hb0 hb))
        have HTK := hid htk
        have HL20 := hid (show sn ≤ 20 ∧ rn ≤ 20 from ⟨by omega, by omega⟩)
        have L1 := hid (show (x.shown.map (Value.int .i64)).length = sn * 1 by rw [List.length_map, hsn]; omega)
        have L2 := hid (show sa = none → sn = 0 from fun h => by rw [← hsn]; exact ints_none hsi h)
        have L3 := hid (show (x.read.map (Value.int .i64)).length = rn * 1 by rw [List.length_map, hrn]; omega)
        have L4 := hid (show ra = none → rn = 0 from fun h => by rw [← hrn]; exact ints_none hri h)
        have M1 := hid (show 0 + sn ≤ maxLen by unfold maxLen; omega)
        have M2 := hid (show (0 + sn) * 8 ≤ 140737488355328 by omega)
        have M3 := hid (show sn + rn ≤ maxLen by unfold maxLen; omega)
        have M4 := hid (show (sn + rn) * 8 ≤ 140737488355328 by omega)
        have HLN := hid (show (x.shown ++ x.read).length = sn + rn by rw [List.length_append, hsn, hrn])
        clear hx htk hwt hb0 hcells hsn hsm hsi hrn hrm hri q1 q2 q6 q7 hkl hb hP
        go_upto_region 14 with fail
        rw [← HWT.out]
        cases P with
        | false =>
          have HB2 := hid (show (false : Bool) = (false && !decide (sn = 0) && !decide (rn = 0)) from rfl)
          go_wp2
          refine plain_region (fun j' X => wAll j' = true → X.cell? ⟨wo.heap.size, 0, none⟩ = some (.slice sa sn sc) ∧ X.cell? ⟨wo.heap.size, 1, none⟩ = some (.slice ra rn rc)) (by kernel_rfl) ?_
          have hbd : Below wt.heap.size wt wt.drew := (Below.refl _ _).drew
          generalize wt.drew = wd at hbd ⊢
          refine AnyT.takeD (i := 1) (v := .pointer (some ⟨wo.heap.size, 0, none⟩)) rfl rfl (by kernel_rfl) (by kernel_rfl) (by kernel_rfl) (by first | exact (fun _ _ _ h => h) | exact (fun _ _ _ h => absurd h.1 (by simp))) (by kernel_rfl) (by rfl) (by rintro w' hw'; go_simp) (HS.out _ hbd) ?_; go_frame
          refine AnyT.takeD (i := 2) (v := .slice sa sn sc) rfl rfl (by kernel_rfl) (by kernel_rfl) (by kernel_rfl) (by first | exact (fun _ _ _ h => h) | exact (fun _ _ _ h => absurd h.1 (by simp))) (by kernel_rfl) (by rfl) (by rintro w' ⟨q4, q5⟩; go_simp) (HS.out _ hbd) ?_; go_frame
          refine AnyT.takeD (i := 4) (v := .pointer (some ⟨wo.heap.size, 1, none⟩)) rfl rfl (by kernel_rfl) (by kernel_rfl) (by kernel_rfl) (by first | exact (fun _ _ _ h => h) | exact (fun _ _ _ h => absurd h.1 (by simp))) (by kernel_rfl) (by rfl) (by rintro w' hw'; go_simp) (HS.out _ hbd) ?_; go_frame
          refine AnyT.takeD (i := 5) (v := .slice ra rn rc) rfl rfl (by kernel_rfl) (by kernel_rfl) (by kernel_rfl) (by first | exact (fun _ _ _ h => h) | exact (fun _ _ _ h => absurd h.1 (by simp))) (by kernel_rfl) (by rfl) (by rintro w' ⟨q4, q5⟩; go_simp) (HS.out _ hbd) ?_; go_frame
          refine AnyT.takeD (i := 8) (v := .int .i64 0) rfl rfl (by kernel_rfl) (by kernel_rfl) (by kernel_rfl) (by first | exact (fun _ _ _ h => h) | exact (fun _ _ _ h => absurd h.1 (by simp))) (by kernel_rfl) (by rfl) (by rintro w' hw'; go_simp) (HS.out _ hbd) ?_; go_frame
          have hbA := hbd.alloc hbd.size (.cells #[] 3)
          refine AnyT.next (i := 0) (by kernel_rfl) rfl (wpOp_of_list rfl ?_)
          go_wp2
          refine ⟨fun _ => HS.out _ hbA, ?_⟩
          have M0 := World.ownsRow_made (base := wd.heap.size) (e := 3) (size := 1) wd #[] 0 (Nat.le_refl _) (Nat.zero_le _) rfl
          refine AnyT.next (i := 3) (by kernel_rfl) rfl (wpOp_of_list rfl ?_)
          (refine wpList_app _ rfl (.tmp 88) (.tmp 90) 30 rfl wd.heap.size 3 (.int .i64 0) 1 8 Tryz.underlying30 info_int rfl Nat.one_pos (.slice (some ⟨wd.heap.size, 0, none⟩) 0 0) 0 [] rfl M0 sa sn sc (x.shown.map (Value.int .i64)) rfl L1.out L2.out (ints_news (HSI.out _ hbA)) (ints_oneCell _ _) M1.out M2.out (by simp <;> omega) ?_)
          intro a1 c1 w3 own1 g1
          change _ ∧ AnyT _ _ _ _ _ _ _ (Act.put _ (some 91) _) _
          rw [Nat.zero_add] at own1 ⊢
          rw [List.nil_append] at own1
          have hb3 := hbA.grown g1 hbA.size (fun k hk => Nat.le_trans hbd.size ((M0.lt k hk).1))
          have hz3 : wd.heap.size ≤ w3.heap.size := by have := g1.size; simp at this; omega
          refine ⟨fun _ => HS.out _ hb3, ?_⟩
          refine AnyT.next (i := 6) (by kernel_rfl) rfl (wpOp_of_list rfl ?_)
          (refine wpList_app _ rfl (.tmp 91) (.tmp 93) 30 rfl wd.heap.size 3 (.int .i64 0) 1 8 Tryz.underlying30 info_int rfl Nat.one_pos (.slice a1 sn c1) sn _ rfl own1 ra rn rc (x.read.map (Value.int .i64)) rfl L3.out L4.out (ints_news (HRI.out _ hb3)) (ints_oneCell _ _) M3.out M4.out hz3 ?_)
          intro a2 c2 w4 own2 g2
          change _ ∧ AnyT _ _ _ _ _ _ _ (Act.put _ (some 94) _) _
          have hb4 := hb3.grown g2 hb3.size (fun k hk => Nat.le_trans hbd.size ((own1.lt k hk).1))
          refine ⟨fun _ => HS.out _ hb4, ?_⟩
          rw [← List.map_append] at own2
          obtain ⟨_, _, hI⟩ := (ElemI.own' (base := 0) (S := fun _ => True) own2 rfl HLN.out M3.out (fun _ _ => trivial)).ints
          have HI := hid hI
          have HB4 := hid (chain HBT.out hb4)
          refine AnyT.takeD (i := 7) (v := .int .i64 ((sn + rn : Nat) : Int)) rfl rfl (by kernel_rfl) (by kernel_rfl) (by kernel_rfl) (by first | exact (fun _ _ _ h => h) | exact (fun _ _ _ h => absurd h.1 (by simp))) (by kernel_rfl) (by rfl) (by rintro w' hw'; go_simp) (HS.out _ hb4) ?_; go_frame
          refine AnyT.done (by kernel_rfl) ?_ _
          obtain ⟨m, hm'⟩ : ∃ m, m = sn + rn := ⟨_, rfl⟩
          rw [← hm'] at HLN ⊢
          have hm40 : m ≤ 40 := by have := HL20.out; omega
          clear hbd hbA hb3 hb4 own1 own2 g1 g2 M0 hz3 hI hm'
          go_wp2
          go_loopw [12, 96] (fun f i wr => ∃ j : Nat, j ≤ m ∧ i = .int .i64 j ∧ f = .bool (false && ((x.shown ++ x.read).take j).all inR) ∧ Below w4.heap.size w4 wr) (fun _ i _ => m - (intOf i).toNat)
          case atStart => exact ⟨0, Nat.zero_le _, rfl, rfl, Below.refl _ _⟩
          case round =>
            obtain ⟨j, hj, rfl, rfl, hb⟩ := hrel
            obtain ⟨cur, hcur⟩ : ∃ c, c = (false && ((x.shown ++ x.read).take j).all inR) := ⟨_, rfl⟩
            rw [← hcur]
            by_cases hjl : j < m
            · have hjx : j < (x.shown ++ x.read).length := by rw [HLN.out]; exact hjl
              obtain ⟨b, off, e2, hbs2, hc2⟩ := (HI.out.below hb) j hjx
              subst e2
              rw [List.getElem?_eq_getElem hjx] at hc2
              simp only [Option.getD_some] at hc2
              have hta : (false && ((x.shown ++ x.read).take (j + 1)).all inR) = (cur && inR ((x.shown ++ x.read)[j])) := by
                rw [List.take_succ_eq_append_getElem hjx, List.all_append, hcur]; simp [Bool.and_assoc]
              obtain ⟨z, hz⟩ : ∃ z, z = (x.shown ++ x.read)[j] := ⟨_, rfl⟩
              rw [← hz] at hc2 hta
              have HTA := hid hta
              clear hta hz hjx hcur
              cases cur
              · go_wp2
                refine ⟨⟨j + 1, by omega, by go_num, ?_, hb⟩, by simp [intOf]; omega⟩
                rw [HTA.out]; rfl
              · by_cases y1 : -1000000000 ≤ z
                · by_cases y2 : z ≤ 1000000000
                  · go_wp2
                    refine ⟨⟨j + 1, by omega, by go_num, ?_, hb⟩, by simp [intOf]; omega⟩
                    rw [HTA.out]; simp [inR, y1, y2]
                  · go_wp2
                    refine ⟨⟨j + 1, by omega, by go_num, ?_, hb⟩, by simp [intOf]; omega⟩
                    rw [HTA.out]; simp [inR, y1, y2]
                · go_wp2
                  refine ⟨⟨j + 1, by omega, by go_num, ?_, hb⟩, by simp [intOf]; omega⟩
                  rw [HTA.out]; simp [inR, y1]
            · obtain rfl : j = m := by omega
              have hall : (x.shown ++ x.read).take j = x.shown ++ x.read := List.take_of_length_le (by rw [HLN.out]; exact Nat.le_refl _)
              rw [hall] at hcur
              have HCU := hid hcur
              clear hall hcur
              go_wp2
              refine ⟨⟨k + 1, by omega, by go_num, ?_, chain HB4.out hb⟩, by simp [intOf]; omega⟩
              rw [HTK.out, HOX.out, HCU.out]
              have h9 := HB2.out
              revert h9
              cases decide (sn = 0) <;> cases decide (rn = 0) <;> simp
        | true =>
          by_cases hs0 : sn = 0
          · have HB2 := hid (show (false : Bool) = (true && !decide (sn = 0) && !decide (rn = 0)) by simp [hs0])
            have hs1 : ¬ 0 < sn := by omega
            have hs2 : ¬ (0 : Int) < sn := by omega
            clear hs0
            go_wp2
            refine plain_region (fun j' X => wAll j' = true → X.cell? ⟨wo.heap.size, 0, none⟩ = some (.slice sa sn sc) ∧ X.cell? ⟨wo.heap.size, 1, none⟩ = some (.slice ra rn rc)) (by kernel_rfl) ?_
            have hbd : Below wt.heap.size wt wt.drew := (Below.refl _ _).drew
            generalize wt.drew = wd at hbd ⊢
            refine AnyT.takeD (i := 1) (v := .pointer (some ⟨wo.heap.size, 0, none⟩)) rfl rfl (by kernel_rfl) (by kernel_rfl) (by kernel_rfl) (by first | exact (fun _ _ _ h => h) | exact (fun _ _ _ h => absurd h.1 (by simp))) (by kernel_rfl) (by rfl) (by rintro w' hw'; go_simp) (HS.out _ hbd) ?_; go_frame
            refine AnyT.takeD (i := 2) (v := .slice sa sn sc) rfl rfl (by kernel_rfl) (by kernel_rfl) (by kernel_rfl) (by first | exact (fun _ _ _ h => h) | exact (fun _ _ _ h => absurd h.1 (by simp))) (by kernel_rfl) (by rfl) (by rintro w' ⟨q4, q5⟩; go_simp) (HS.out _ hbd) ?_; go_frame
            refine AnyT.takeD (i := 4) (v := .pointer (some ⟨wo.heap.size, 1, none⟩)) rfl rfl (by kernel_rfl) (by kernel_rfl) (by kernel_rfl) (by first | exact (fun _ _ _ h => h) | exact (fun _ _ _ h => absurd h.1 (by simp))) (by kernel_rfl) (by rfl) (by rintro w' hw'; go_simp) (HS.out _ hbd) ?_; go_frame
            refine AnyT.takeD (i := 5) (v := .slice ra rn rc) rfl rfl (by kernel_rfl) (by kernel_rfl) (by kernel_rfl) (by first | exact (fun _ _ _ h => h) | exact (fun _ _ _ h => absurd h.1 (by simp))) (by kernel_rfl) (by rfl) (by rintro w' ⟨q4, q5⟩; go_simp) (HS.out _ hbd) ?_; go_frame
            refine AnyT.takeD (i := 8) (v := .int .i64 0) rfl rfl (by kernel_rfl) (by kernel_rfl) (by kernel_rfl) (by first | exact (fun _ _ _ h => h) | exact (fun _ _ _ h => absurd h.1 (by simp))) (by kernel_rfl) (by rfl) (by rintro w' hw'; go_simp) (HS.out _ hbd) ?_; go_frame
            have hbA := hbd.alloc hbd.size (.cells #[] 3)
            refine AnyT.next (i := 0) (by kernel_rfl) rfl (wpOp_of_list rfl ?_)
            go_wp2
            refine ⟨fun _ => HS.out _ hbA, ?_⟩
            have M0 := World.ownsRow_made (base := wd.heap.size) (e := 3) (size := 1) wd #[] 0 (Nat.le_refl _) (Nat.zero_le _) rfl
            refine AnyT.next (i := 3) (by kernel_rfl) rfl (wpOp_of_list rfl ?_)
            (refine wpList_app _ rfl (.tmp 88) (.tmp 90) 30 rfl wd.heap.size 3 (.int .i64 0) 1 8 Tryz.underlying30 info_int rfl Nat.one_pos (.slice (some ⟨wd.heap.size, 0, none⟩) 0 0) 0 [] rfl M0 sa sn sc (x.shown.map (Value.int .i64)) rfl L1.out L2.out (ints_news (HSI.out _ hbA)) (ints_oneCell _ _) M1.out M2.out (by simp <;> omega) ?_)
            intro a1 c1 w3 own1 g1
            change _ ∧ AnyT _ _ _ _ _ _ _ (Act.put _ (some 91) _) _
            rw [Nat.zero_add] at own1 ⊢
            rw [List.nil_append] at own1
            have hb3 := hbA.grown g1 hbA.size (fun k hk => Nat.le_trans hbd.size ((M0.lt k hk).1))
            have hz3 : wd.heap.size ≤ w3.heap.size := by have := g1.size; simp at this; omega
            refine ⟨fun _ => HS.out _ hb3, ?_⟩
            refine AnyT.next (i := 6) (by kernel_rfl) rfl (wpOp_of_list rfl ?_)
            (refine wpList_app _ rfl (.tmp 91) (.tmp 93) 30 rfl wd.heap.size 3 (.int .i64 0) 1 8 Tryz.underlying30 info_int rfl Nat.one_pos (.slice a1 sn c1) sn _ rfl own1 ra rn rc (x.read.map (Value.int .i64)) rfl L3.out L4.out (ints_news (HRI.out _ hb3)) (ints_oneCell _ _) M3.out M4.out hz3 ?_)
            intro a2 c2 w4 own2 g2
            change _ ∧ AnyT _ _ _ _ _ _ _ (Act.put _ (some 94) _) _
            have hb4 := hb3.grown g2 hb3.size (fun k hk => Nat.le_trans hbd.size ((own1.lt k hk).1))
            refine ⟨fun _ => HS.out _ hb4, ?_⟩
            rw [← List.map_append] at own2
            obtain ⟨_, _, hI⟩ := (ElemI.own' (base := 0) (S := fun _ => True) own2 rfl HLN.out M3.out (fun _ _ => trivial)).ints
            have HI := hid hI
            have HB4 := hid (chain HBT.out hb4)
            refine AnyT.takeD (i := 7) (v := .int .i64 ((sn + rn : Nat) : Int)) rfl rfl (by kernel_rfl) (by kernel_rfl) (by kernel_rfl) (by first | exact (fun _ _ _ h => h) | exact (fun _ _ _ h => absurd h.1 (by simp))) (by kernel_rfl) (by rfl) (by rintro w' hw'; go_simp) (HS.out _ hb4) ?_; go_frame
            refine AnyT.done (by kernel_rfl) ?_ _
            obtain ⟨m, hm'⟩ : ∃ m, m = sn + rn := ⟨_, rfl⟩
            rw [← hm'] at HLN ⊢
            have hm40 : m ≤ 40 := by have := HL20.out; omega
            clear hbd hbA hb3 hb4 own1 own2 g1 g2 M0 hz3 hI hm'
            go_wp2
            go_loopw [12, 96] (fun f i wr => ∃ j : Nat, j ≤ m ∧ i = .int .i64 j ∧ f = .bool (false && ((x.shown ++ x.read).take j).all inR) ∧ Below w4.heap.size w4 wr) (fun _ i _ => m - (intOf i).toNat)
            case atStart => exact ⟨0, Nat.zero_le _, rfl, rfl, Below.refl _ _⟩
            case round =>
              obtain ⟨j, hj, rfl, rfl, hb⟩ := hrel
              obtain ⟨cur, hcur⟩ : ∃ c, c = (false && ((x.shown ++ x.read).take j).all inR) := ⟨_, rfl⟩
              rw [← hcur]
              by_cases hjl : j < m
              · have hjx : j < (x.shown ++ x.read).length := by rw [HLN.out]; exact hjl
                obtain ⟨b, off, e2, hbs2, hc2⟩ := (HI.out.below hb) j hjx
                subst e2
                rw [List.getElem?_eq_getElem hjx] at hc2
                simp only [Option.getD_some] at hc2
                have hta : (false && ((x.shown ++ x.read).take (j + 1)).all inR) = (cur && inR ((x.shown ++ x.read)[j])) := by
                  rw [List.take_succ_eq_append_getElem hjx, List.all_append, hcur]; simp [Bool.and_assoc]
                obtain ⟨z, hz⟩ : ∃ z, z = (x.shown ++ x.read)[j] := ⟨_, rfl⟩
                rw [← hz] at hc2 hta
                have HTA := hid hta
                clear hta hz hjx hcur
                cases cur
                · go_wp2
                  refine ⟨⟨j + 1, by omega, by go_num, ?_, hb⟩, by simp [intOf]; omega⟩
                  rw [HTA.out]; rfl
                · by_cases y1 : -1000000000 ≤ z
                  · by_cases y2 : z ≤ 1000000000
                    · go_wp2
                      refine ⟨⟨j + 1, by omega, by go_num, ?_, hb⟩, by simp [intOf]; omega⟩
                      rw [HTA.out]; simp [inR, y1, y2]
                    · go_wp2
                      refine ⟨⟨j + 1, by omega, by go_num, ?_, hb⟩, by simp [intOf]; omega⟩
                      rw [HTA.out]; simp [inR, y1, y2]
                  · go_wp2
                    refine ⟨⟨j + 1, by omega, by go_num, ?_, hb⟩, by simp [intOf]; omega⟩
                    rw [HTA.out]; simp [inR, y1]
              · obtain rfl : j = m := by omega
                have hall : (x.shown ++ x.read).take j = x.shown ++ x.read := List.take_of_length_le (by rw [HLN.out]; exact Nat.le_refl _)
                rw [hall] at hcur
                have HCU := hid hcur
                clear hall hcur
                go_wp2
                refine ⟨⟨k + 1, by omega, by go_num, ?_, chain HB4.out hb⟩, by simp [intOf]; omega⟩
                rw [HTK.out, HOX.out, HCU.out]
                have h9 := HB2.out
                revert h9
                cases decide (sn = 0) <;> cases decide (rn = 0) <;> simp
          · by_cases hr0 : rn = 0
            · have HB2 := hid (show (false : Bool) = (true && !decide (sn = 0) && !decide (rn = 0)) by simp [hr0])
              have hs1 : 0 < sn := by omega
              have hs2 : (0 : Int) < sn := by omega
              have hr1 : ¬ 0 < rn := by omega
              have hr2 : ¬ (0 : Int) < rn := by omega
              clear hs0 hr0
              go_wp2
              refine plain_region (fun j' X => wAll j' = true → X.cell? ⟨wo.heap.size, 0, none⟩ = some (.slice sa sn sc) ∧ X.cell? ⟨wo.heap.size, 1, none⟩ = some (.slice ra rn rc)) (by kernel_rfl) ?_
              have hbd : Below wt.heap.size wt wt.drew := (Below.refl _ _).drew
              generalize wt.drew = wd at hbd ⊢
              refine AnyT.takeD (i := 1) (v := .pointer (some ⟨wo.heap.size, 0, none⟩)) rfl rfl (by kernel_rfl) (by kernel_rfl) (by kernel_rfl) (by first | exact (fun _ _ _ h => h) | exact (fun _ _ _ h => absurd h.1 (by simp))) (by kernel_rfl) (by rfl) (by rintro w' hw'; go_simp) (HS.out _ hbd) ?_; go_frame
              refine AnyT.takeD (i := 2) (v := .slice sa sn sc) rfl rfl (by kernel_rfl) (by kernel_rfl) (by kernel_rfl) (by first | exact (fun _ _ _ h => h) | exact (fun _ _ _ h => absurd h.1 (by simp))) (by kernel_rfl) (by rfl) (by rintro w' ⟨q4, q5⟩; go_simp) (HS.out _ hbd) ?_; go_frame
              refine AnyT.takeD (i := 4) (v := .pointer (some ⟨wo.heap.size, 1, none⟩)) rfl rfl (by kernel_rfl) (by kernel_rfl) (by kernel_rfl) (by first | exact (fun _ _ _ h => h) | exact (fun _ _ _ h => absurd h.1 (by simp))) (by kernel_rfl) (by rfl) (by rintro w' hw'; go_simp) (HS.out _ hbd) ?_; go_frame
              refine AnyT.takeD (i := 5) (v := .slice ra rn rc) rfl rfl (by kernel_rfl) (by kernel_rfl) (by kernel_rfl) (by first | exact (fun _ _ _ h => h) | exact (fun _ _ _ h => absurd h.1 (by simp))) (by kernel_rfl) (by rfl) (by rintro w' ⟨q4, q5⟩; go_simp) (HS.out _ hbd) ?_; go_frame
              refine AnyT.takeD (i := 8) (v := .int .i64 0) rfl rfl (by kernel_rfl) (by kernel_rfl) (by kernel_rfl) (by first | exact (fun _ _ _ h => h) | exact (fun _ _ _ h => absurd h.1 (by simp))) (by kernel_rfl) (by rfl) (by rintro w' hw'; go_simp) (HS.out _ hbd) ?_; go_frame
              have hbA := hbd.alloc hbd.size (.cells #[] 3)
              refine AnyT.next (i := 0) (by kernel_rfl) rfl (wpOp_of_list rfl ?_)
              go_wp2
              refine ⟨fun _ => HS.out _ hbA, ?_⟩
              have M0 := World.ownsRow_made (base := wd.heap.size) (e := 3) (size := 1) wd #[] 0 (Nat.le_refl _) (Nat.zero_le _) rfl
              refine AnyT.next (i := 3) (by kernel_rfl) rfl (wpOp_of_list rfl ?_)
              (refine wpList_app _ rfl (.tmp 88) (.tmp 90) 30 rfl wd.heap.size 3 (.int .i64 0) 1 8 Tryz.underlying30 info_int rfl Nat.one_pos (.slice (some ⟨wd.heap.size, 0, none⟩) 0 0) 0 [] rfl M0 sa sn sc (x.shown.map (Value.int .i64)) rfl L1.out L2.out (ints_news (HSI.out _ hbA)) (ints_oneCell _ _) M1.out M2.out (by simp <;> omega) ?_)
              intro a1 c1 w3 own1 g1
              change _ ∧ AnyT _ _ _ _ _ _ _ (Act.put _ (some 91) _) _
              rw [Nat.zero_add] at own1 ⊢
              rw [List.nil_append] at own1
              have hb3 := hbA.grown g1 hbA.size (fun k hk => Nat.le_trans hbd.size ((M0.lt k hk).1))
              have hz3 : wd.heap.size ≤ w3.heap.size := by have := g1.size; simp at this; omega
              refine ⟨fun _ => HS.out _ hb3, ?_⟩
              refine AnyT.next (i := 6) (by kernel_rfl) rfl (wpOp_of_list rfl ?_)
              (refine wpList_app _ rfl (.tmp 91) (.tmp 93) 30 rfl wd.heap.size 3 (.int .i64 0) 1 8 Tryz.underlying30 info_int rfl Nat.one_pos (.slice a1 sn c1) sn _ rfl own1 ra rn rc (x.read.map (Value.int .i64)) rfl L3.out L4.out (ints_news (HRI.out _ hb3)) (ints_oneCell _ _) M3.out M4.out hz3 ?_)
              intro a2 c2 w4 own2 g2
              change _ ∧ AnyT _ _ _ _ _ _ _ (Act.put _ (some 94) _) _
              have hb4 := hb3.grown g2 hb3.size (fun k hk => Nat.le_trans hbd.size ((own1.lt k hk).1))
              refine ⟨fun _ => HS.out _ hb4, ?_⟩
              rw [← List.map_append] at own2
              obtain ⟨_, _, hI⟩ := (ElemI.own' (base := 0) (S := fun _ => True) own2 rfl HLN.out M3.out (fun _ _ => trivial)).ints
              have HI := hid hI
              have HB4 := hid (chain HBT.out hb4)
              refine AnyT.takeD (i := 7) (v := .int .i64 ((sn + rn : Nat) : Int)) rfl rfl (by kernel_rfl) (by kernel_rfl) (by kernel_rfl) (by first | exact (fun _ _ _ h => h) | exact (fun _ _ _ h => absurd h.1 (by simp))) (by kernel_rfl) (by rfl) (by rintro w' hw'; go_simp) (HS.out _ hb4) ?_; go_frame
              refine AnyT.done (by kernel_rfl) ?_ _
              obtain ⟨m, hm'⟩ : ∃ m, m = sn + rn := ⟨_, rfl⟩
              rw [← hm'] at HLN ⊢
              have hm40 : m ≤ 40 := by have := HL20.out; omega
              clear hbd hbA hb3 hb4 own1 own2 g1 g2 M0 hz3 hI hm'
              go_wp2
              go_loopw [12, 96] (fun f i wr => ∃ j : Nat, j ≤ m ∧ i = .int .i64 j ∧ f = .bool (false && ((x.shown ++ x.read).take j).all inR) ∧ Below w4.heap.size w4 wr) (fun _ i _ => m - (intOf i).toNat)
              case atStart => exact ⟨0, Nat.zero_le _, rfl, rfl, Below.refl _ _⟩
              case round =>
                obtain ⟨j, hj, rfl, rfl, hb⟩ := hrel
                obtain ⟨cur, hcur⟩ : ∃ c, c = (false && ((x.shown ++ x.read).take j).all inR) := ⟨_, rfl⟩
                rw [← hcur]
                by_cases hjl : j < m
                · have hjx : j < (x.shown ++ x.read).length := by rw [HLN.out]; exact hjl
                  obtain ⟨b, off, e2, hbs2, hc2⟩ := (HI.out.below hb) j hjx
                  subst e2
                  rw [List.getElem?_eq_getElem hjx] at hc2
                  simp only [Option.getD_some] at hc2
                  have hta : (false && ((x.shown ++ x.read).take (j + 1)).all inR) = (cur && inR ((x.shown ++ x.read)[j])) := by
                    rw [List.take_succ_eq_append_getElem hjx, List.all_append, hcur]; simp [Bool.and_assoc]
                  obtain ⟨z, hz⟩ : ∃ z, z = (x.shown ++ x.read)[j] := ⟨_, rfl⟩
                  rw [← hz] at hc2 hta
                  have HTA := hid hta
                  clear hta hz hjx hcur
                  cases cur
                  · go_wp2
                    refine ⟨⟨j + 1, by omega, by go_num, ?_, hb⟩, by simp [intOf]; omega⟩
                    rw [HTA.out]; rfl
                  · by_cases y1 : -1000000000 ≤ z
                    · by_cases y2 : z ≤ 1000000000
                      · go_wp2
                        refine ⟨⟨j + 1, by omega, by go_num, ?_, hb⟩, by simp [intOf]; omega⟩
                        rw [HTA.out]; simp [inR, y1, y2]
                      · go_wp2
                        refine ⟨⟨j + 1, by omega, by go_num, ?_, hb⟩, by simp [intOf]; omega⟩
                        rw [HTA.out]; simp [inR, y1, y2]
                    · go_wp2
                      refine ⟨⟨j + 1, by omega, by go_num, ?_, hb⟩, by simp [intOf]; omega⟩
                      rw [HTA.out]; simp [inR, y1]
                · obtain rfl : j = m := by omega
                  have hall : (x.shown ++ x.read).take j = x.shown ++ x.read := List.take_of_length_le (by rw [HLN.out]; exact Nat.le_refl _)
                  rw [hall] at hcur
                  have HCU := hid hcur
                  clear hall hcur
                  go_wp2
                  refine ⟨⟨k + 1, by omega, by go_num, ?_, chain HB4.out hb⟩, by simp [intOf]; omega⟩
                  rw [HTK.out, HOX.out, HCU.out]
                  have h9 := HB2.out
                  revert h9
                  cases decide (sn = 0) <;> cases decide (rn = 0) <;> simp
            · have HB2 := hid (show (true : Bool) = (true && !decide (sn = 0) && !decide (rn = 0)) by simp [hs0, hr0])
              have hs1 : 0 < sn := by omega
              have hs2 : (0 : Int) < sn := by omega
              have hr1 : 0 < rn := by omega
              have hr2 : (0 : Int) < rn := by omega
              clear hs0 hr0
              go_wp2
              refine plain_region (fun j' X => wAll j' = true → X.cell? ⟨wo.heap.size, 0, none⟩ = some (.slice sa sn sc) ∧ X.cell? ⟨wo.heap.size, 1, none⟩ = some (.slice ra rn rc)) (by kernel_rfl) ?_
              have hbd : Below wt.heap.size wt wt.drew := (Below.refl _ _).drew
              generalize wt.drew = wd at hbd ⊢
              refine AnyT.takeD (i := 1) (v := .pointer (some ⟨wo.heap.size, 0, none⟩)) rfl rfl (by kernel_rfl) (by kernel_rfl) (by kernel_rfl) (by first | exact (fun _ _ _ h => h) | exact (fun _ _ _ h => absurd h.1 (by simp))) (by kernel_rfl) (by rfl) (by rintro w' hw'; go_simp) (HS.out _ hbd) ?_; go_frame
              refine AnyT.takeD (i := 2) (v := .slice sa sn sc) rfl rfl (by kernel_rfl) (by kernel_rfl) (by kernel_rfl) (by first | exact (fun _ _ _ h => h) | exact (fun _ _ _ h => absurd h.1 (by simp))) (by kernel_rfl) (by rfl) (by rintro w' ⟨q4, q5⟩; go_simp) (HS.out _ hbd) ?_; go_frame
              refine AnyT.takeD (i := 4) (v := .pointer (some ⟨wo.heap.size, 1, none⟩)) rfl rfl (by kernel_rfl) (by kernel_rfl) (by kernel_rfl) (by first | exact (fun _ _ _ h => h) | exact (fun _ _ _ h => absurd h.1 (by simp))) (by kernel_rfl) (by rfl) (by rintro w' hw'; go_simp) (HS.out _ hbd) ?_; go_frame
              refine AnyT.takeD (i := 5) (v := .slice ra rn rc) rfl rfl (by kernel_rfl) (by kernel_rfl) (by kernel_rfl) (by first | exact (fun _ _ _ h => h) | exact (fun _ _ _ h => absurd h.1 (by simp))) (by kernel_rfl) (by rfl) (by rintro w' ⟨q4, q5⟩; go_simp) (HS.out _ hbd) ?_; go_frame
              refine AnyT.takeD (i := 8) (v := .int .i64 0) rfl rfl (by kernel_rfl) (by kernel_rfl) (by kernel_rfl) (by first | exact (fun _ _ _ h => h) | exact (fun _ _ _ h => absurd h.1 (by simp))) (by kernel_rfl) (by rfl) (by rintro w' hw'; go_simp) (HS.out _ hbd) ?_; go_frame
              have hbA := hbd.alloc hbd.size (.cells #[] 3)
              refine AnyT.next (i := 0) (by kernel_rfl) rfl (wpOp_of_list rfl ?_)
              go_wp2
              refine ⟨fun _ => HS.out _ hbA, ?_⟩
              have M0 := World.ownsRow_made (base := wd.heap.size) (e := 3) (size := 1) wd #[] 0 (Nat.le_refl _) (Nat.zero_le _) rfl
              refine AnyT.next (i := 3) (by kernel_rfl) rfl (wpOp_of_list rfl ?_)
              (refine wpList_app _ rfl (.tmp 88) (.tmp 90) 30 rfl wd.heap.size 3 (.int .i64 0) 1 8 Tryz.underlying30 info_int rfl Nat.one_pos (.slice (some ⟨wd.heap.size, 0, none⟩) 0 0) 0 [] rfl M0 sa sn sc (x.shown.map (Value.int .i64)) rfl L1.out L2.out (ints_news (HSI.out _ hbA)) (ints_oneCell _ _) M1.out M2.out (by simp <;> omega) ?_)
              intro a1 c1 w3 own1 g1
              change _ ∧ AnyT _ _ _ _ _ _ _ (Act.put _ (some 91) _) _
              rw [Nat.zero_add] at own1 ⊢
              rw [List.nil_append] at own1
              have hb3 := hbA.grown g1 hbA.size (fun k hk => Nat.le_trans hbd.size ((M0.lt k hk).1))
              have hz3 : wd.heap.size ≤ w3.heap.size := by have := g1.size; simp at this; omega
              refine ⟨fun _ => HS.out _ hb3, ?_⟩
              refine AnyT.next (i := 6) (by kernel_rfl) rfl (wpOp_of_list rfl ?_)
              (refine wpList_app _ rfl (.tmp 91) (.tmp 93) 30 rfl wd.heap.size 3 (.int .i64 0) 1 8 Tryz.underlying30 info_int rfl Nat.one_pos (.slice a1 sn c1) sn _ rfl own1 ra rn rc (x.read.map (Value.int .i64)) rfl L3.out L4.out (ints_news (HRI.out _ hb3)) (ints_oneCell _ _) M3.out M4.out hz3 ?_)
              intro a2 c2 w4 own2 g2
              change _ ∧ AnyT _ _ _ _ _ _ _ (Act.put _ (some 94) _) _
              have hb4 := hb3.grown g2 hb3.size (fun k hk => Nat.le_trans hbd.size ((own1.lt k hk).1))
              refine ⟨fun _ => HS.out _ hb4, ?_⟩
              rw [← List.map_append] at own2
              obtain ⟨_, _, hI⟩ := (ElemI.own' (base := 0) (S := fun _ => True) own2 rfl HLN.out M3.out (fun _ _ => trivial)).ints
              have HI := hid hI
              have HB4 := hid (chain HBT.out hb4)
              refine AnyT.takeD (i := 7) (v := .int .i64 ((sn + rn : Nat) : Int)) rfl rfl (by kernel_rfl) (by kernel_rfl) (by kernel_rfl) (by first | exact (fun _ _ _ h => h) | exact (fun _ _ _ h => absurd h.1 (by simp))) (by kernel_rfl) (by rfl) (by rintro w' hw'; go_simp) (HS.out _ hb4) ?_; go_frame
              refine AnyT.done (by kernel_rfl) ?_ _
              obtain ⟨m, hm'⟩ : ∃ m, m = sn + rn := ⟨_, rfl⟩
              rw [← hm'] at HLN ⊢
              have hm40 : m ≤ 40 := by have := HL20.out; omega
              clear hbd hbA hb3 hb4 own1 own2 g1 g2 M0 hz3 hI hm'
              go_wp2
              go_loopw [12, 96] (fun f i wr => ∃ j : Nat, j ≤ m ∧ i = .int .i64 j ∧ f = .bool (true && ((x.shown ++ x.read).take j).all inR) ∧ Below w4.heap.size w4 wr) (fun _ i _ => m - (intOf i).toNat)
              case atStart => exact ⟨0, Nat.zero_le _, rfl, rfl, Below.refl _ _⟩
              case round =>
                obtain ⟨j, hj, rfl, rfl, hb⟩ := hrel
                obtain ⟨cur, hcur⟩ : ∃ c, c = (true && ((x.shown ++ x.read).take j).all inR) := ⟨_, rfl⟩
                rw [← hcur]
                by_cases hjl : j < m
                · have hjx : j < (x.shown ++ x.read).length := by rw [HLN.out]; exact hjl
                  obtain ⟨b, off, e2, hbs2, hc2⟩ := (HI.out.below hb) j hjx
                  subst e2
                  rw [List.getElem?_eq_getElem hjx] at hc2
                  simp only [Option.getD_some] at hc2
                  have hta : (true && ((x.shown ++ x.read).take (j + 1)).all inR) = (cur && inR ((x.shown ++ x.read)[j])) := by
                    rw [List.take_succ_eq_append_getElem hjx, List.all_append, hcur]; simp [Bool.and_assoc]
                  obtain ⟨z, hz⟩ : ∃ z, z = (x.shown ++ x.read)[j] := ⟨_, rfl⟩
                  rw [← hz] at hc2 hta
                  have HTA := hid hta
                  clear hta hz hjx hcur
                  cases cur
                  · go_wp2
                    refine ⟨⟨j + 1, by omega, by go_num, ?_, hb⟩, by simp [intOf]; omega⟩
                    rw [HTA.out]; rfl
                  · by_cases y1 : -1000000000 ≤ z
                    · by_cases y2 : z ≤ 1000000000
                      · go_wp2
                        refine ⟨⟨j + 1, by omega, by go_num, ?_, hb⟩, by simp [intOf]; omega⟩
                        rw [HTA.out]; simp [inR, y1, y2]
                      · go_wp2
                        refine ⟨⟨j + 1, by omega, by go_num, ?_, hb⟩, by simp [intOf]; omega⟩
                        rw [HTA.out]; simp [inR, y1, y2]
                    · go_wp2
                      refine ⟨⟨j + 1, by omega, by go_num, ?_, hb⟩, by simp [intOf]; omega⟩
                      rw [HTA.out]; simp [inR, y1]
                · obtain rfl : j = m := by omega
                  have hall : (x.shown ++ x.read).take j = x.shown ++ x.read := List.take_of_length_le (by rw [HLN.out]; exact Nat.le_refl _)
                  rw [hall] at hcur
                  have HCU := hid hcur
                  clear hall hcur
                  go_wp2
                  refine ⟨⟨k + 1, by omega, by go_num, ?_, chain HB4.out hb⟩, by simp [intOf]; omega⟩
                  rw [HTK.out, HOX.out, HCU.out]
                  have h9 := HB2.out
                  revert h9
                  cases decide (sn = 0) <;> cases decide (rn = 0) <;> simp
      · obtain rfl : k = n := by omega
        have hall : t.take k = t := List.take_of_length_le (by have := HN.out; omega)
        have hPF : P = fitsT t := by rw [hP, hall]; unfold fitsT; rw [HN.out]
        have HPF := hid hPF
        have HB := hid hb
        clear hall hP hPF hb
        cases P with
        | false =>
          go_wp2_with (go_at_call 6; refine (HAw.out _ HB.out).mono ?_; rintro e w12 ⟨rfl, hb12⟩)
          go_ret
          exact ⟨rfl, chain HB.out hb12⟩
        | true =>
          obtain ⟨_, y1, y2⟩ := HFR.out HPF.out.symm
          have HP3 := hid (Parse_c wo (HX.out.below HB.out) F (.inl (by rw [HFD.out.2]; exact y1)) (by rw [HFD.out.2]; omega))
          rw [HFD.out.1, y2] at HP3
          have HHw := hid (HH.out.below HB.out)
          clear y1 y2
          go_wp2_with (go_at_call 7; refine HP3.out.mono ?_; rintro e w7 ⟨v7, rfl, hT7, hb7⟩; refine Stop.of ?_)
          refine Stop.go ?_
          obtain ⟨ka, kc, rfl, _, hkT⟩ := hT7.reads
          have HST2 := hid (sameTests_t w7 ka a t.length kc cap t rfl (by have := HN.out; unfold maxLen; omega) hkT (HHw.out.below hb7))
          rw [HN.out] at HST2
          have HB7 := hid (chain HB.out hb7)
          have hkn : t.length = k := HN.out
          clear hT7 hkT hb7
          simp only [hkn]
          clear hkn
          go_wp2_with (first
            | (go_at_call 9; refine HST2.out.mono ?_; rintro e w8 ⟨rfl, hb8⟩)
            | (go_at_call 6; refine (HAw.out _ (chain HB7.out hb8)).mono ?_; rintro e w12 ⟨rfl, hb12⟩))
          go_ret
          exact ⟨rfl, chain HB7.out (chain hb8 hb12)⟩
end Go.Proofs.YtddcamcdjkiadaaGreatDoor

namespace Go.Proofs.YtddcamcdjkiadaaGreatDoor
open Go.ChangeShapes Go.WideShapes Go.ChangeAt Go.RowKit Go.Deep
set_option linter.unusedVariables false

def Fits64 (n : Int) : Prop := -9223372036854775808 ≤ n ∧ n ≤ 9223372036854775807
theorem fits64 {n : Int} (h : (Lit.int .i64 n).wf = true) : Fits64 n := by
  simpa [Fits64, Lit.wf, IntKind.min, IntKind.max, IntKind.signed, IntKind.bits] using h

theorem cell_plain {w : World} {a : Addr} {v : Value} (h : w.cell? a = some v) : a = ⟨a.block, a.off, none⟩ ∧ a.block < w.heap.size := by
  unfold World.cell? at h
  split at h
  · rename_i c _ _ hb
    obtain ⟨b, o, s⟩ := a
    cases s with
    | none => exact ⟨rfl, (Array.getElem?_eq_some_iff.1 hb).1⟩
    | some s => simp at h
  · simp at h

theorem add_plain (b o : Nat) (i : Nat) : (Addr.mk b o none).add i = ⟨b, o + i, none⟩ := by
  unfold Addr.add
  split
  · rename_i h; rw [h]; rfl
  · rfl

section
variable {H : Type} {enc : TypeId × Value → H} {P : Program} {w : World} {base : Nat} {held : Bool}

theorem ints_opened {e q : TypeId} {fuel : Nat} {a : Option Addr} {n cap : Nat} {x : DataW H × List MemPlace} (he : P.underlying e = some (.slice q)) (hq : P.underlying q = some (.int .i64)) (cq : P.cellsOf q = 1)
    (h : DataW.trod enc P w base (fun _ => true) held fuel e [.slice a n cap] = some x) : ∃ l : List Int, l.length = n ∧ n ≤ maxLen ∧ IntsAt w a l ∧ ∀ y ∈ l, Fits64 y := by
  rcases open_ints he hq cq h with ⟨hcs, _⟩ | ⟨x, l, c, zs, hcs, _, hl, hm, hz, _, hcell, hwz⟩
  · simp at hcs
    obtain ⟨rfl, rfl, rfl⟩ := hcs
    exact ⟨[], rfl, by decide, fun j hj => by simp at hj, fun y hy => by simp at hy⟩
  · simp at hcs
    obtain ⟨rfl, rfl, rfl⟩ := hcs
    simp only [if_true] at hz
    refine ⟨zs.take n, by rw [List.length_take]; omega, by omega, fun j hj => ?_, fun y hy => fits64 (hwz y (List.mem_of_mem_take hy))⟩
    rw [List.length_take] at hj
    have h0 := cell_plain (hcell 0 (by omega))
    simp only [Addr.add, if_true] at h0
    obtain ⟨b, o, s⟩ := x
    have hs : s = none := by have := h0.1; simp at this; exact this
    subst hs
    refine ⟨b, o, rfl, h0.2, ?_⟩
    have := hcell j (by omega)
    rw [add_plain] at this
    rw [this]
    simp [List.getElem?_take, show j < n by omega, List.getD]

end
end Go.Proofs.YtddcamcdjkiadaaGreatDoor

namespace Go.Proofs.YtddcamcdjkiadaaGreatDoor
open Go.ChangeShapes Go.WideShapes Go.ChangeAt Go.RowKit Go.Deep
set_option linter.unusedVariables false

theorem tab_type : (Tryz.prog.globals[5]?).map (·.type) = some 187 := by kernel_rfl
section
variable {H : Type} {enc : TypeId × Value → H} {P : Program} {w : World} {base : Nat} {held : Bool}

theorem arg_tests {r : Reach} {b0 : Nat} {t c q : TypeId} {f0 f1 : Field} {v : Value} {d : DataW H} {p : List MemPlace} (ht : P.underlying t = some (.slice c)) (hs : P.underlying c = some (.struct #[f0, f1])) (hone : oneCellFields P #[f0, f1] = true) (hC : P.cellsOf c = 2)
    (he0 : P.underlying f0.type = some (.slice q)) (he1 : P.underlying f1.type = some (.slice q)) (hq : P.underlying q = some (.int .i64)) (cq : P.cellsOf q = 1)
    (hv : Value.okWide P w r b0 t v) (h : DataW.Trod enc P w base (fun _ => true) held t v d p) : ∃ a n cap, ∃ l : List Tst, v = .slice a n cap ∧ l.length = n ∧ n ≤ maxLen ∧ TestsAt w a l ∧ ∀ y ∈ l, (∀ z ∈ y.shown, Fits64 z) ∧ ∀ z ∈ y.read, Fits64 z := by
  obtain ⟨a, n, cap, rfl⟩ := okWide_slice ht hv
  obtain ⟨fuel, hf⟩ := h
  rcases open_slice ht (by simpa [Value.cells] using hf) with ⟨hcs, _⟩ | ⟨x, len, c', m, nn, D, Pl, hcs, _, hl, hm, hmm, _, hx⟩
  · simp at hcs
    obtain ⟨rfl, rfl, rfl⟩ := hcs
    exact ⟨none, 0, 0, [], rfl, rfl, by decide, fun j hj => by simp at hj, fun y hy => by simp at hy⟩
  simp at hcs
  obtain ⟨rfl, rfl, rfl⟩ := hcs
  simp only [if_true] at hmm
  obtain ⟨o0, k0⟩ := hone_of hone 0 f0 rfl
  obtain ⟨o1, k1⟩ := hone_of hone 1 f1 rfl
  have hsl : ∀ {fuel : Nat} {e : TypeId} (he : P.underlying e = some (.slice q)) {v0 : Value} {x : DataW H × List MemPlace}, DataW.trod enc P w base (fun _ => true) held fuel e [v0] = some x → ∃ ra rn rc, v0 = .slice ra rn rc := by
    intro fuel e he v0 x k0
    rcases open_ints he hq cq k0 with ⟨hcs, _⟩ | ⟨x, l, c, zs, hcs, _⟩
    · simp at hcs; exact ⟨_, _, _, hcs⟩
    · simp at hcs; exact ⟨_, _, _, hcs⟩
  have each : ∀ i, i < n → ∃ y : Tst × (Option Addr × Nat × Nat) × (Option Addr × Nat × Nat), w.cell? (x.add (i * 2)) = some (.slice y.2.1.1 y.2.1.2.1 y.2.1.2.2) ∧ w.cell? ((x.add (i * 2)).add 1) = some (.slice y.2.2.1 y.2.2.2.1 y.2.2.2.2) ∧
      y.1.shown.length = y.2.1.2.1 ∧ y.2.1.2.1 ≤ maxLen ∧ IntsAt w y.2.1.1 y.1.shown ∧ (∀ z ∈ y.1.shown, Fits64 z) ∧ y.1.read.length = y.2.2.2.1 ∧ y.2.2.2.1 ≤ maxLen ∧ IntsAt w y.2.2.1 y.1.read ∧ (∀ z ∈ y.1.read, Fits64 z) := by
    intro i hi
    obtain ⟨cs', hc, htr⟩ := hx i (by omega)
    rw [hC] at hc
    obtain ⟨_, hlen, hcell⟩ := World.cells?_some hc
    match cs', hlen with
    | [c0, c1], _ =>
      obtain ⟨y0, y1, n', _, _, t0, t1⟩ := trod_struct2 hs htr
      rw [o0, k0] at t0
      rw [o1, k1] at t1
      simp at t0 t1
      obtain ⟨sa, sn, sc, rfl⟩ := hsl he0 t0
      obtain ⟨ra, rn, rc, rfl⟩ := hsl he1 t1
      obtain ⟨l0, p1, p2, p3, p4⟩ := ints_opened he0 hq cq t0
      obtain ⟨l1, q1, q2, q3, q4⟩ := ints_opened he1 hq cq t1
      have hc0 := hcell 0 (by omega)
      rw [show (x.add (i * 2)).add 0 = x.add (i * 2) from rfl] at hc0
      exact ⟨(⟨l0, l1⟩, (sa, sn, sc), (ra, rn, rc)), by simpa using hc0, by simpa using hcell 1 (by omega), p1, p2, p3, p4, q1, q2, q3, q4⟩
  haveI : Inhabited (Tst × (Option Addr × Nat × Nat) × (Option Addr × Nat × Nat)) := ⟨(⟨[], []⟩, (none, 0, 0), (none, 0, 0))⟩
  obtain ⟨y, hy⟩ := choose_lt each
  refine ⟨some x, n, cap, (List.range n).map fun i => (y i).1, rfl, by simp, by omega, fun j hj => ?_, fun z hz => ?_⟩
  · have hjn : j < n := by simpa using hj
    have hp := cell_plain (hy 0 (by omega)).1
    simp only [Addr.add, Nat.zero_mul, if_true] at hp
    obtain ⟨b, o, s⟩ := x
    have hs' : s = none := by have := hp.1; simp at this; exact this
    subst hs'
    obtain ⟨r0, r1, r3, r4, r5, r6, r7, r8, r9, r10⟩ := hy j hjn
    rw [add_plain] at r0 r1
    rw [add_plain] at r1
    refine ⟨b, o, (y j).2.1.1, (y j).2.1.2.1, (y j).2.1.2.2, (y j).2.2.1, (y j).2.2.2.1, (y j).2.2.2.2, rfl, hp.2, r0, r1, ?_, r4, ?_, ?_, r8, ?_⟩ <;> simp only [List.getElem_map, List.getElem_range] <;> assumption
  · obtain ⟨i, hi, rfl⟩ := List.mem_map.1 hz
    obtain ⟨r0, r1, r3, r4, r5, r6, r7, r8, r9, r10⟩ := hy i (List.mem_range.1 hi)
    exact ⟨r6, r10⟩
end
end Go.Proofs.YtddcamcdjkiadaaGreatDoor

namespace Go.Proofs.YtddcamcdjkiadaaGreatDoor
open Go.ChangeShapes Go.WideShapes Go.ChangeAt Go.RowKit Go.Deep
set_option linter.unusedVariables false

abbrev laidX : List (String × DataW Unit) := Rows.faultTextsRow.laid

theorem gER : Tryz.prog.globalNamed "strconv.ErrRange" = some 2 := by kernel_rfl
theorem gERType : (Tryz.prog.globals[2]?).map (·.type) = some 56 := by kernel_rfl
theorem gES : Tryz.prog.globalNamed "strconv.ErrSyntax" = some 1 := by kernel_rfl
theorem gESType : (Tryz.prog.globals[1]?).map (·.type) = some 56 := by kernel_rfl
theorem star_err : "*" ++ "errors.errorString" = "*errors.errorString" := by decide
theorem row_err (u : TypeId) (h : Tryz.prog.typeName? 3 u = some "*errors.errorString") : u = 169 :=
  typeName_ptr_named (nm := "errors.errorString") (by rw [star_err]; kernel_rfl) (by kernel_rfl) (by decide) u (by rw [star_err]; exact h)
theorem maxLen_cell (W : World) (h : W.ShapedOpen Tryz.prog) : ∃ m, W.cell? ⟨0, 0, none⟩ = some (.int .i64 m) :=
  Go.Proofs.cell_of_shapedOpen_int (zero := #[.int .i64 0]) (t := 3) h (of_decide_eq_true (by kernel_rfl)) (by kernel_rfl) rfl (by kernel_rfl) (by kernel_rfl) Tryz.underlying3

theorem tabX_of_laid {W : World} (h : laidMetH Tryz.prog laidX W) (hs : W.ShapedOpen Tryz.prog) : TabX W := by
  rw [MakeChecks.laidMetH_plain _ _ _ (by kernel_rfl)] at h
  have h3 := (laidMet.tail (laidMet.tail h))
  have h5 := (laidMet.tail (laidMet.tail h3))
  have h6 := laidMet.tail h5
  refine ⟨?_, maxLen_cell W hs, ?_, ?_⟩
  · have e : (Rows.laid_internal_strconv_uint64pow10 : DataW Unit) = Lib.tabData .u64 Lib.pow10Tab := by kernel_rfl
    rw [e] at h3
    exact Lib.tabIs_of_head tabNamed tab_type Tryz.underlying187 Tryz.underlying151 (by kernel_rfl) (by kernel_rfl) h3
  · obtain ⟨a, s, hv, _⟩ := laid_sentinel h6 gES gESType Tryz.underlying56 row_err Tryz.underlying169 Tryz.underlying171 rfl rfl Tryz.underlying9 (by kernel_rfl) (by kernel_rfl)
    exact ⟨_, by have h0 := World.var?_cell gES hv 0; simpa using h0, .inr ⟨_, _, rfl⟩⟩
  · obtain ⟨a, s, hv, _⟩ := laid_sentinel h5 gER gERType Tryz.underlying56 row_err Tryz.underlying169 Tryz.underlying171 rfl rfl Tryz.underlying9 (by kernel_rfl) (by kernel_rfl)
    exact ⟨_, by have h0 := World.var?_cell gER hv 0; simpa using h0, .inr ⟨_, _, rfl⟩⟩
end Go.Proofs.YtddcamcdjkiadaaGreatDoor

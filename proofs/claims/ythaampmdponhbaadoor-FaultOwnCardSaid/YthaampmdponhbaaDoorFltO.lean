/- Walks of fault.pictures, fault.listed, and Units of both packages. -/
import Derived.Test.YthaampmdponhbaaDoorFltN
namespace Go.Proofs.YthaampmdponhbaaDoor
open Go.RowKit
set_option linter.unusedVariables false

theorem pictures1 (w : World) (b : Nat) (a : Option Addr) (n cap : Nat) (M : Mask) (hn : M.length = n) (hm : n ≤ maxLen) (H : RowsAt w a M) (hb : b < w.heap.size) (hc : w.cell? ⟨b, 0, none⟩ = some (.slice a n cap)) :
    PredR Tryd.prog 77 #[.pointer (some ⟨b, 0, none⟩)] w (fun x => !okShown M x) := by
  intro x v W hbw hv
  have hc' : W.cell? ⟨b, 0, none⟩ = some (.slice a n cap) := (hbw.cell (p := ⟨b, 0, none⟩) hb).trans hc
  obtain ⟨ra, rn, rc, rfl, hrn, hrm, hri⟩ := hv
  have HR := hid (maskShown_c W a n cap M hn hm (H.below hbw) ra rn rc x hrn hrm hri)
  clear hrn hri hn H hc
  go_enter Tryd.func77, Tryd.ntmps77
  go_wp2_with (go_at_call 60; refine HR.out.mono ?_; rintro e w1 ⟨rfl, hb1⟩)
  go_ret
  exact ⟨rfl, hb1⟩

/-- shown pictures, not too many -/
def picsB (M : Mask) (L : List (List Int)) : Bool := decide (L.length ≤ 12) && L.all (okShown M)
theorem picsB_iff {M : Mask} {L : List (List Int)} (h : picsB M L = true) : L.length ≤ 12 ∧ ∀ x ∈ L, okShown M x = true := by
  unfold picsB at h
  simpa using h

theorem pictures_c (w : World) (a : Option Addr) (n cap : Nat) (M : Mask) (hn : M.length = n) (hm : n ≤ maxLen) (H : RowsAt w a M) (a2 : Option Addr) (n2 cap2 : Nat) (L : List (List Int)) (hn2 : L.length = n2) (hm2 : n2 ≤ maxLen) (H2 : RowsAt w a2 L) :
    Calls Tryd.prog 44 #[.slice a n cap, .slice a2 n2 cap2] w fun e w' => e = .returned (.bool (picsB M L)) ∧ Below w.heap.size w w' := by
  have hb0 : Below w.heap.size w (w.alloc (.cells #[.slice a n cap] 23)) := (Below.refl _ _).alloc (Nat.le_refl _) _
  have hmf : ∀ (fn : Fn) (first cap : Array Value) (w : World), (Instr.makeFunc fn first cap).run Tryd.prog w = .ok (.func fn first cap) w := fun _ _ _ _ => rfl
  have HC := hid (containsR (w.alloc (.cells #[.slice a n cap] 23)) a2 n2 cap2 L hn2 hm2 (H2.below hb0) 77 #[.pointer (some ⟨w.heap.size, 0, none⟩)] _ (enters_of Tryd.func77 (by kernel_rfl) rfl)
    (pictures1 _ w.heap.size a n cap M hn hm (H.below hb0) (by simp) (by rw [World.cell?_alloc_at _ _ _ _ rfl]; rfl)))
  have HN2 := hid hn2
  unfold maxLen at hm2
  by_cases h12 : n2 ≤ 12
  · have hd : decide ((n2 : Int) ≤ 12) = true := by simp; omega
    have HQ := hid h12
    clear hn H hn2 H2 h12
    go_enter Tryd.func44, Tryd.ntmps44
    go_wp2_with (refine HC.out.mono ?_; rintro e w1 ⟨rfl, hb1⟩)
    go_ret
    exact ⟨ret_bool (by unfold picsB; rw [HN2.out, decide_eq_true HQ.out]; simp [List.all_eq_not_any_not]), chain hb0 hb1⟩
  · have hd : decide ((n2 : Int) ≤ 12) = false := by simp; omega
    have HQ := hid h12
    clear hn H hn2 H2 h12
    go_enter Tryd.func44, Tryd.ntmps44
    go_wp2
    go_ret
    exact ⟨ret_bool (by unfold picsB; rw [HN2.out, decide_eq_false HQ.out]; simp), hb0⟩

/-- the error of a mask and shown pictures -/
def listedE (M : Mask) (L : List (List Int)) : Int := if okM M = true then (if picsB M L = true then 0 else 7) else 1

theorem flisted_c (w : World) (a : Option Addr) (n cap : Nat) (M : Mask) (hn : M.length = n) (hm : n ≤ maxLen) (H : RowsAt w a M) (a2 : Option Addr) (n2 cap2 : Nat) (L : List (List Int)) (hn2 : L.length = n2) (hm2 : n2 ≤ maxLen) (H2 : RowsAt w a2 L) :
    Calls Tryd.prog 42 #[.slice a n cap, .slice a2 n2 cap2] w fun e w' => e = .returned (.int .i64 (listedE M L)) ∧ Below w.heap.size w w' := by
  have HV := hid (maskValid_c w a n cap M hn hm H)
  have HP := hid (fun (W : World) (hb : Below w.heap.size w W) => pictures_c W a n cap M hn hm (H.below hb) a2 n2 cap2 L hn2 hm2 (H2.below hb))
  clear hn H hn2 H2
  cases h1 : okM M
  · rw [h1] at HV
    have HE := hid h1
    clear h1
    go_enter Tryd.func42, Tryd.ntmps42
    go_wp2_with (go_at_call 40; refine HV.out.mono ?_; rintro e w1 ⟨rfl, hb1⟩)
    go_ret
    exact ⟨ret_int (by unfold listedE; rw [HE.out]; simp), hb1⟩
  · rw [h1] at HV
    have HE := hid h1
    clear h1
    cases h2 : picsB M L
    all_goals
      rw [h2] at HP
      have HF := hid h2
      clear h2
      go_enter Tryd.func42, Tryd.ntmps42
      go_wp2_with (first | (go_at_call 40; refine HV.out.mono ?_; rintro e w1 ⟨rfl, hb1⟩) | (go_at_call 44; refine (HP.out _ hb1).mono ?_; rintro e w2 ⟨rfl, hb2⟩))
      go_ret
      exact ⟨ret_int (by unfold listedE; rw [HE.out, HF.out]; simp), chain hb1 hb2⟩

theorem ElemI.row {E : TypeId} {W : World} {base b n cap : Nat} {S : Nat → Prop} {l : List Int} (h : IntRow W E b l) (hn : l.length = n) (hm : n ≤ maxLen) (hS : S b) : ElemI E W base S (.slice (some ⟨b, 0, none⟩) n cap) l :=
  ⟨_, _, _, rfl, hn, hm, fun j hj => ⟨b, 0, rfl, hS, h.lt, .inr ⟨_, _, h⟩, by rw [Nat.zero_add]; exact h.cell hj⟩⟩
theorem unit_row (w : World) (E : TypeId) (n k : Nat) : IntRow (w.alloc (.cells ((madeCells #[Value.int .i64 0] n).setIfInBounds k (.int .i64 1)) E)) E w.heap.size (unitL n k) := by
  have e : (madeCells #[Value.int .i64 0] n).setIfInBounds k (.int .i64 1) = ((unitL n k).map (Value.int .i64)).toArray := by
    apply Array.toList_inj.1
    rw [Array.toList_setIfInBounds, toList_madeCells_one, unitL, List.map_set]; simp
  unfold IntRow
  rw [e]
  exact World.alloc_heap_new _ _

/-- what Units returns -/
def UnitsRet (M : Mask) (w : World) (e : Ending) (w' : World) : Prop :=
  Below w.heap.size w w' ∧ if okM M = true then ∃ v base, e = .returned (.tuple #[v, .int .i64 0]) ∧ w.heap.size ≤ base ∧ RowsO 3 30 w' base (fun _ => True) v (unitsL (colsM M)) else e = .returned (.tuple #[.slice none 0 0, .int .i64 1])

theorem r2Valid_b (w : World) (a : Option Addr) (n cap : Nat) (M : Mask) (hn : M.length = n) (hm : n ≤ maxLen) (H : RowsAt w a M) :
    Calls Tryd.prog 41 #[.slice a n cap] w fun e w' => e = .returned (.bool (okM M)) ∧ Below w.heap.size w w' :=
  (r2Valid_c w a n cap M hn hm H).mono fun e w' ⟨h, e2⟩ => ⟨h, e2 ▸ Below.refl _ _⟩

set_option maxRecDepth 100000 in
set_option maxHeartbeats 2000000 in
theorem units_c (w : World) (a : Option Addr) (n cap : Nat) (M : Mask) (hn : M.length = n) (hm : n ≤ maxLen) (H : RowsAt w a M) :
    Calls Tryd.prog 10 #[.slice a n cap] w fun e w' => UnitsRet M w e w' := by
  have HV := hid (maskValid_c w a n cap M hn hm H)
  cases h1 : okM M
  · rw [h1] at HV
    have HE := hid h1
    clear h1 hn H
    go_enter Tryd.func10, Tryd.ntmps10
    go_wp2_with (go_at_call 40; refine HV.out.mono ?_; rintro e w1 ⟨rfl, hb1⟩)
    go_ret2
    refine ⟨hb1, ?_⟩
    rw [if_neg (by rw [HE.out]; simp)]; rfl
  · rw [h1] at HV
    obtain ⟨m1, m6, c1, c10, hrows⟩ := okM_len h1
    have HE := hid h1
    obtain ⟨b, off, qa, qn, qc, rfl, hbs, hq0, hqn, hqm, hqi⟩ := H 0 (by omega)
    rw [Nat.add_zero] at hq0
    have hcol : colsM M = qn := by unfold colsM; rw [List.getElem?_eq_getElem (by omega), ← hqn]; rfl
    have h0 : 0 < n := by omega
    have hn6 : n ≤ 6 := by omega
    have hq1 : 1 ≤ qn := by omega
    have hq10 : qn ≤ 10 := by omega
    have HCol := hid hcol
    clear h1 hn H hrows hqn hqm hqi hcol m1 m6 c1 c10
    go_enter Tryd.func10, Tryd.ntmps10
    go_wp2_with (go_at_call 40; refine HV.out.mono ?_; rintro e w1 ⟨rfl, hb1⟩; have hc1 : w1.cell? ⟨b, off, none⟩ = some (.slice qa qn qc) := (hb1.cell (p := ⟨b, off, none⟩) hbs).trans hq0)
    go_loopw [4, 14] (fun v i wr => ∃ k : Nat, k ≤ qn ∧ i = .int .i64 k ∧ RowsO 3 30 wr w1.heap.size (fun _ => True) v ((List.range k).map (unitL qn)) ∧ Below w1.heap.size w1 wr) (fun _ i _ => qn - (intOf i).toNat)
    case atStart => exact ⟨0, Nat.zero_le _, rfl, RowsO.nil _ _ _ _ _, Below.refl _ _⟩
    case round =>
      obtain ⟨k, hk, rfl, hR, hbk⟩ := hrel
      have hc : wr.cell? ⟨b, off, none⟩ = some (.slice qa qn qc) := ((chain hb1 hbk).cell (p := ⟨b, off, none⟩) hbs).trans hq0
      by_cases hlt : k < qn
      · have hmk : ∀ w, (Instr.makeSlice 30 (.int .i64 (qn : Int)) (.int .i64 (qn : Int))).run Tryd.prog w = .ok (.slice (some ⟨w.heap.size, 0, none⟩) qn qn) (w.alloc (.cells (madeCells #[.int .i64 0] qn) 3)) :=
          fun w => run_make_row' 30 3 (.int .i64 0) 8 Tryd.underlying30 info_int rfl .i64 .i64 qn (by omega) (by omega) w
        have hrow := IntRow.made wr 3 qn
        have hcell := hrow.cell (j := k) (by simpa using hlt)
        have hfz := hrow.frozen k
        have HRW := hid hrow
        obtain ⟨wm, hwm⟩ : ∃ wm, wm = wr.alloc (.cells ((madeCells #[Value.int .i64 0] qn).setIfInBounds k (.int .i64 1)) 3) := ⟨_, rfl⟩
        have hsz : wm.heap.size = wr.heap.size + 1 := by rw [hwm]; simp
        have hbm : Below wr.heap.size wr wm := by rw [hwm]; exact (Below.refl _ _).alloc (Nat.le_refl _) _
        have hrow2 : IntRow wm 3 wr.heap.size (unitL qn k) := by
          rw [hwm]; exact unit_row wr 3 qn k
        have hul : (unitL qn k).length = qn := by simp [unitL]
        have hel : ElemI 3 wm w1.heap.size (fun _ => True) (.slice (some ⟨wr.heap.size, 0, none⟩) qn qn) (unitL qn k) := ElemI.row hrow2 hul (by unfold maxLen; omega) trivial
        obtain ⟨vs, ho, hg, he⟩ := hR.keep (Keep.of_below hbm)
        rw [List.length_map, List.length_range] at ho
        have HO := hid ho
        have HE := hid he
        have HEL := hid hel
        have HBM := hid hbm
        have HSZ := hid hsz
        have hrk : (List.range (k + 1)).map (unitL qn) = (List.range k).map (unitL qn) ++ [unitL qn k] := by rw [List.range_succ]; simp
        have HRK := hid hrk
        have HWM := hid hwm
        have M1 := hid (show k + 1 ≤ maxLen by unfold maxLen; omega)
        have M2 := hid (show (k + 1) * 24 ≤ 140737488355328 by omega)
        have M3 := hid (show w1.heap.size ≤ (wm.alloc (.cells #[.slice (some ⟨wr.heap.size, 0, none⟩) qn qn] 30)).heap.size from by
          have := hbk.size; have := hbm.size; simp; omega)
        clear hR hrow ho hg he hel hbm hsz hrk hwm hrow2 hul
        go_wp2_with (at_builtin; refine Stop.of ?_)
        refine Stop.go ?_
        rw [← HWM.out, ← HSZ.out]
        refine wpList_app _ rfl (.tmp 25) (.tmp 27) 22 rfl w1.heap.size 30 (.slice none 0 0) 1 24 Tryd.underlying22 info_ints rfl Nat.one_pos u4 k vs rfl (HO.out.alloc _) (some ⟨wm.heap.size, 0, none⟩) 1 1 [.slice (some ⟨wr.heap.size, 0, none⟩) qn qn] rfl rfl no_none (one_news wm _ _) (slice_oneCell _ _ _) M1.out M2.out M3.out ?_
        intro a3 c3 w3 own3 g3
        have hR3 : RowsO 3 30 w3 w1.heap.size (fun _ => True) (.slice a3 (k + 1) c3) ((List.range k).map (unitL qn) ++ [unitL qn k]) :=
          RowsO.snoc (by decide) (by rw [List.length_map, List.length_range]; exact HO.out) HE.out HEL.out ((Below.refl _ wm).alloc (Nat.le_refl _) _) g3 (by rw [List.length_map, List.length_range]; exact own3) (fun _ _ => trivial)
        have hb3 : Below w1.heap.size w1 w3 := ((hbk.trans (HBM.out.mono hbk.size)).alloc (by have := hbk.size; have := HBM.out.size; omega) _).grown g3 M3.out (fun q hq => (HO.out.lt q hq).1)
        go_wp2
        exact ⟨⟨k + 1, by omega, by go_num, by rw [HRK.out]; exact hR3, hb3⟩, by simp [intOf]; omega⟩
      · obtain rfl : k = qn := by omega
        go_wp2
        go_ret2
        refine ⟨chain hb1 hbk, ?_⟩
        rw [if_pos HE.out, HCol.out]
        exact ⟨u4, w1.heap.size, rfl, hb1.size, hR⟩
set_option maxRecDepth 100000 in
set_option maxHeartbeats 2000000 in
theorem refUnits_c (w : World) (a : Option Addr) (n cap : Nat) (M : Mask) (hn : M.length = n) (hm : n ≤ maxLen) (H : RowsAt w a M) :
    Calls Tryd.prog 11 #[.slice a n cap] w fun e w' => UnitsRet M w e w' := by
  have HV := hid (r2Valid_b w a n cap M hn hm H)
  cases h1 : okM M
  · rw [h1] at HV
    have HE := hid h1
    clear h1 hn H
    go_enter Tryd.func11, Tryd.ntmps11
    go_wp2_with (go_at_call 41; refine HV.out.mono ?_; rintro e w1 ⟨rfl, hb1⟩)
    go_ret2
    refine ⟨hb1, ?_⟩
    rw [if_neg (by rw [HE.out]; simp)]; rfl
  · rw [h1] at HV
    obtain ⟨m1, m6, c1, c10, hrows⟩ := okM_len h1
    have HE := hid h1
    obtain ⟨b, off, qa, qn, qc, rfl, hbs, hq0, hqn, hqm, hqi⟩ := H 0 (by omega)
    rw [Nat.add_zero] at hq0
    have hcol : colsM M = qn := by unfold colsM; rw [List.getElem?_eq_getElem (by omega), ← hqn]; rfl
    have h0 : 0 < n := by omega
    have hn6 : n ≤ 6 := by omega
    have hq1 : 1 ≤ qn := by omega
    have hq10 : qn ≤ 10 := by omega
    have HCol := hid hcol
    clear h1 hn H hrows hqn hqm hqi hcol m1 m6 c1 c10
    go_enter Tryd.func11, Tryd.ntmps11
    go_wp2_with (go_at_call 41; refine HV.out.mono ?_; rintro e w1 ⟨rfl, hb1⟩; have hc1 : w1.cell? ⟨b, off, none⟩ = some (.slice qa qn qc) := (hb1.cell (p := ⟨b, off, none⟩) hbs).trans hq0)
    go_loopw [4, 14] (fun v i wr => ∃ k : Nat, k ≤ qn ∧ i = .int .i64 k ∧ RowsO 3 30 wr w1.heap.size (fun _ => True) v ((List.range k).map (unitL qn)) ∧ Below w1.heap.size w1 wr) (fun _ i _ => qn - (intOf i).toNat)
    case atStart => exact ⟨0, Nat.zero_le _, rfl, RowsO.nil _ _ _ _ _, Below.refl _ _⟩
    case round =>
      obtain ⟨k, hk, rfl, hR, hbk⟩ := hrel
      have hc : wr.cell? ⟨b, off, none⟩ = some (.slice qa qn qc) := ((chain hb1 hbk).cell (p := ⟨b, off, none⟩) hbs).trans hq0
      by_cases hlt : k < qn
      · have hmk : ∀ w, (Instr.makeSlice 30 (.int .i64 (qn : Int)) (.int .i64 (qn : Int))).run Tryd.prog w = .ok (.slice (some ⟨w.heap.size, 0, none⟩) qn qn) (w.alloc (.cells (madeCells #[.int .i64 0] qn) 3)) :=
          fun w => run_make_row' 30 3 (.int .i64 0) 8 Tryd.underlying30 info_int rfl .i64 .i64 qn (by omega) (by omega) w
        have hrow := IntRow.made wr 3 qn
        have hcell := hrow.cell (j := k) (by simpa using hlt)
        have hfz := hrow.frozen k
        have HRW := hid hrow
        obtain ⟨wm, hwm⟩ : ∃ wm, wm = wr.alloc (.cells ((madeCells #[Value.int .i64 0] qn).setIfInBounds k (.int .i64 1)) 3) := ⟨_, rfl⟩
        have hsz : wm.heap.size = wr.heap.size + 1 := by rw [hwm]; simp
        have hbm : Below wr.heap.size wr wm := by rw [hwm]; exact (Below.refl _ _).alloc (Nat.le_refl _) _
        have hrow2 : IntRow wm 3 wr.heap.size (unitL qn k) := by
          rw [hwm]; exact unit_row wr 3 qn k
        have hul : (unitL qn k).length = qn := by simp [unitL]
        have hel : ElemI 3 wm w1.heap.size (fun _ => True) (.slice (some ⟨wr.heap.size, 0, none⟩) qn qn) (unitL qn k) := ElemI.row hrow2 hul (by unfold maxLen; omega) trivial
        obtain ⟨vs, ho, hg, he⟩ := hR.keep (Keep.of_below hbm)
        rw [List.length_map, List.length_range] at ho
        have HO := hid ho
        have HE := hid he
        have HEL := hid hel
        have HBM := hid hbm
        have HSZ := hid hsz
        have hrk : (List.range (k + 1)).map (unitL qn) = (List.range k).map (unitL qn) ++ [unitL qn k] := by rw [List.range_succ]; simp
        have HRK := hid hrk
        have HWM := hid hwm
        have M1 := hid (show k + 1 ≤ maxLen by unfold maxLen; omega)
        have M2 := hid (show (k + 1) * 24 ≤ 140737488355328 by omega)
        have M3 := hid (show w1.heap.size ≤ (wm.alloc (.cells #[.slice (some ⟨wr.heap.size, 0, none⟩) qn qn] 30)).heap.size from by
          have := hbk.size; have := hbm.size; simp; omega)
        clear hR hrow ho hg he hel hbm hsz hrk hwm hrow2 hul
        go_wp2_with (at_builtin; refine Stop.of ?_)
        refine Stop.go ?_
        rw [← HWM.out, ← HSZ.out]
        refine wpList_app _ rfl (.tmp 25) (.tmp 27) 22 rfl w1.heap.size 30 (.slice none 0 0) 1 24 Tryd.underlying22 info_ints rfl Nat.one_pos u4 k vs rfl (HO.out.alloc _) (some ⟨wm.heap.size, 0, none⟩) 1 1 [.slice (some ⟨wr.heap.size, 0, none⟩) qn qn] rfl rfl no_none (one_news wm _ _) (slice_oneCell _ _ _) M1.out M2.out M3.out ?_
        intro a3 c3 w3 own3 g3
        have hR3 : RowsO 3 30 w3 w1.heap.size (fun _ => True) (.slice a3 (k + 1) c3) ((List.range k).map (unitL qn) ++ [unitL qn k]) :=
          RowsO.snoc (by decide) (by rw [List.length_map, List.length_range]; exact HO.out) HE.out HEL.out ((Below.refl _ wm).alloc (Nat.le_refl _) _) g3 (by rw [List.length_map, List.length_range]; exact own3) (fun _ _ => trivial)
        have hb3 : Below w1.heap.size w1 w3 := ((hbk.trans (HBM.out.mono hbk.size)).alloc (by have := hbk.size; have := HBM.out.size; omega) _).grown g3 M3.out (fun q hq => (HO.out.lt q hq).1)
        go_wp2
        exact ⟨⟨k + 1, by omega, by go_num, by rw [HRK.out]; exact hR3, hb3⟩, by simp [intOf]; omega⟩
      · obtain rfl : k = qn := by omega
        go_wp2
        go_ret2
        refine ⟨chain hb1 hbk, ?_⟩
        rw [if_pos HE.out, HCol.out]
        exact ⟨u4, w1.heap.size, rfl, hb1.size, hR⟩
end Go.Proofs.YthaampmdponhbaaDoor

/- Walks and plain laws for BitTextsRow, part 3. -/
import Derived.Test.YtofcpmfbeobgiaaDoorPkBitTextsRow2
namespace Go.Proofs.YtofcpmfbeobgiaaDoor
open Go.RowKit Go.Shelf
set_option linter.unusedVariables false

def headN (l : List Cel) : Nat := ((l[0]?).map (fun c => c.row.length)).getD 0
theorem headN_pos {l : List Cel} (h : 0 < l.length) : headN l = l[0].row.length := by unfold headN; rw [List.getElem?_eq_getElem h]; rfl
theorem listB_head (l : List Cel) : listB l = (decide (l.length ≤ 30) && l.all (fun c => inB c.row.length 1 8 && okCell (headN l) c)) := rfl

set_option maxRecDepth 100000 in
set_option maxHeartbeats 4000000 in
theorem listed1 (w : World) (b0 : Nat) (hb0 : b0 < w.heap.size) (a : Option Addr) (n cap : Nat) (l : List Cel) (hn : l.length = n) (H : CellsAt w a l) (hc : w.cell? ⟨b0, 0, none⟩ = some (.slice a n cap)) :
    PredC Tryd.prog 39 #[.pointer (some ⟨b0, 0, none⟩)] w (fun _ => 0 < l.length) (fun c => !(inB c.row.length 1 8 && okCell (headN l) c)) := by
  intro c v W hok hbw hv
  obtain ⟨ra, rn, rc, rfl, hrn, hrm, hri⟩ := hv
  have hok : 0 < l.length := hok
  obtain ⟨b, off, ra0, rn0, rc0, rfl, hbs, q0, -, -, hrn0, -, -⟩ := (H.below hbw) 0 hok
  have hc' : W.cell? ⟨b0, 0, none⟩ = some (.slice (some ⟨b, off, none⟩) n cap) := (hbw.cell (p := ⟨b0, 0, none⟩) hb0).trans hc
  have hbW : b0 < W.heap.size := Nat.lt_of_lt_of_le hb0 hbw.size
  rw [Nat.zero_mul, Nat.add_zero] at q0
  have hhead : headN l = rn0 := by rw [headN_pos hok]; exact hrn0
  show Calls _ _ _ _ (fun e W' => e = Ending.returned (.bool (!(inB c.row.length 1 8 && okCell (headN l) c))) ∧ Below W.heap.size W W')
  rw [hhead, hrn]
  have hn1 : 0 < n := by omega
  obtain ⟨wz, hwz, hbz, hsz, hcz⟩ := celBox W c.lo c.hi ra rn rc
  have HWZ := hid hwz
  have HBZ := hid hbz
  have HS := hid (fun (X : World) (hX : Below wz.heap.size wz X) => show X.cell? ⟨W.heap.size, 0, none⟩ = some (.slice ra rn rc) ∧ X.cell? ⟨W.heap.size, 1, none⟩ = some (.int .i64 c.lo) ∧ X.cell? ⟨W.heap.size, 2, none⟩ = some (.int .i64 c.hi) ∧ X.cell? ⟨b0, 0, none⟩ = some (.slice (some ⟨b, off, none⟩) n cap) ∧ X.cell? ⟨b, off, none⟩ = some (.slice ra0 rn0 rc0) from
    ⟨(hcz X hX).1, (hcz X hX).2.1, (hcz X hX).2.2, ((chain hbz hX).cell (p := ⟨b0, 0, none⟩) hbW).trans hc', ((chain hbz hX).cell (p := ⟨b, off, none⟩) hbs).trans q0⟩)
  have HV := hid (fun (X : World) (hX : Below wz.heap.size wz X) => validCell_c X (rn0 : Int) (.agg #[.slice ra rn rc, .int .i64 c.lo, .int .i64 c.hi]) c ⟨ra, rn, rc, rfl, hrn, hrm, hri.below (chain hbz hX)⟩)
  have HW := hid (fun (X : World) => within_c (rn : Int) 1 8 X)
  obtain ⟨G1, hG1⟩ : ∃ g, g = inB (rn : Int) 1 8 := ⟨_, rfl⟩
  obtain ⟨G2, hG2⟩ : ∃ g, g = okCell (rn0 : Int) c := ⟨_, rfl⟩
  rw [← hG1] at HW ⊢
  rw [← hG2] at HV ⊢
  clear hn H hc hbw hok q0 hrn0 hc' hrn hri hhead hbz hsz hcz hG1 hG2
  go_enter Tryd.func39, Tryd.ntmps39
  go_wp2_with fail
  rw [← HWZ.out]
  clear hwz
  refine plain_region (fun j X => wAll j = true → X.cell? ⟨W.heap.size, 0, none⟩ = some (.slice ra rn rc) ∧ X.cell? ⟨W.heap.size, 1, none⟩ = some (.int .i64 c.lo) ∧ X.cell? ⟨W.heap.size, 2, none⟩ = some (.int .i64 c.hi) ∧ X.cell? ⟨b0, 0, none⟩ = some (.slice (some ⟨b, off, none⟩) n cap) ∧ X.cell? ⟨b, off, none⟩ = some (.slice ra0 rn0 rc0)) (by kernel_rfl) ?_
  have hbd : Below wz.heap.size wz wz.drew := (Below.refl _ _).drew
  generalize wz.drew = wd at hbd ⊢
  refine AnyT.takeD (i := 0) (v := .pointer (some ⟨W.heap.size, 0, none⟩)) rfl rfl (by kernel_rfl) (by kernel_rfl) (by kernel_rfl) (by first | exact (fun _ _ _ h => h) | exact (fun _ _ _ h => absurd h.1 (by simp))) (by kernel_rfl) (by rfl) (by rintro w' ⟨q0, q1, q2, q3, q4⟩; go_simp) (HS.out _ hbd) ?_; go_frame
  refine AnyT.takeD (i := 1) (v := .slice ra rn rc) rfl rfl (by kernel_rfl) (by kernel_rfl) (by kernel_rfl) (by first | exact (fun _ _ _ h => h) | exact (fun _ _ _ h => absurd h.1 (by simp))) (by kernel_rfl) (by rfl) (by rintro w' ⟨q0, q1, q2, q3, q4⟩; go_simp) (HS.out _ hbd) ?_; go_frame
  refine AnyT.takeD (i := 2) (v := .int .i64 rn) rfl rfl (by kernel_rfl) (by kernel_rfl) (by kernel_rfl) (by first | exact (fun _ _ _ h => h) | exact (fun _ _ _ h => absurd h.1 (by simp))) (by kernel_rfl) (by rfl) (by rintro w' ⟨q0, q1, q2, q3, q4⟩; go_simp) (HS.out _ hbd) ?_; go_frame
  have HBD := hid hbd
  clear hbd
  refine AnyT.next (i := 3) (by kernel_rfl) rfl (wpOp_of_list rfl ?_)
  go_wp2_with (go_at_call 40; refine (HW.out _).mono ?_; rintro e w4 ⟨rfl, rfl⟩; refine Stop.of ?_)
  refine Stop.go ?_
  go_wp2
  refine ⟨fun _ => HS.out _ HBD.out, ?_⟩
  cases G1 with
  | false =>
    refine AnyT.next (i := 4) (by kernel_rfl) rfl (wpOp_of_list rfl ?_)
    go_wp2
    refine ⟨fun _ => HS.out _ HBD.out, ?_⟩
    refine AnyT.next (i := 5) (by kernel_rfl) rfl (wpOp_of_list rfl ?_)
    go_wp2
    refine ⟨fun _ => HS.out _ HBD.out, ?_⟩
    refine AnyT.takeDN (i := 6) rfl rfl (by kernel_rfl) (by kernel_rfl) (by kernel_rfl) (by first | exact (fun _ _ _ h => h) | exact (fun _ _ _ h => absurd h.1 (by simp))) (by kernel_rfl) (by rfl) (HS.out _ HBD.out) ?_; go_frame
    refine AnyT.takeDN (i := 7) rfl rfl (by kernel_rfl) (by kernel_rfl) (by kernel_rfl) (by first | exact (fun _ _ _ h => h) | exact (fun _ _ _ h => absurd h.1 (by simp))) (by kernel_rfl) (by rfl) (HS.out _ HBD.out) ?_; go_frame
    refine AnyT.takeDN (i := 8) rfl rfl (by kernel_rfl) (by kernel_rfl) (by kernel_rfl) (by first | exact (fun _ _ _ h => h) | exact (fun _ _ _ h => absurd h.1 (by simp))) (by kernel_rfl) (by rfl) (HS.out _ HBD.out) ?_; go_frame
    refine AnyT.takeDN (i := 9) rfl rfl (by kernel_rfl) (by kernel_rfl) (by kernel_rfl) (by first | exact (fun _ _ _ h => h) | exact (fun _ _ _ h => absurd h.1 (by simp))) (by kernel_rfl) (by rfl) (HS.out _ HBD.out) ?_; go_frame
    refine AnyT.takeDN (i := 10) rfl rfl (by kernel_rfl) (by kernel_rfl) (by kernel_rfl) (by first | exact (fun _ _ _ h => h) | exact (fun _ _ _ h => absurd h.1 (by simp))) (by kernel_rfl) (by rfl) (HS.out _ HBD.out) ?_; go_frame
    refine AnyT.takeDN (i := 11) rfl rfl (by kernel_rfl) (by kernel_rfl) (by kernel_rfl) (by first | exact (fun _ _ _ h => h) | exact (fun _ _ _ h => absurd h.1 (by simp))) (by kernel_rfl) (by rfl) (HS.out _ HBD.out) ?_; go_frame
    refine AnyT.takeDN (i := 12) rfl rfl (by kernel_rfl) (by kernel_rfl) (by kernel_rfl) (by first | exact (fun _ _ _ h => h) | exact (fun _ _ _ h => absurd h.1 (by simp))) (by kernel_rfl) (by rfl) (HS.out _ HBD.out) ?_; go_frame
    refine AnyT.takeDN (i := 13) rfl rfl (by kernel_rfl) (by kernel_rfl) (by kernel_rfl) (by first | exact (fun _ _ _ h => h) | exact (fun _ _ _ h => absurd h.1 (by simp))) (by kernel_rfl) (by rfl) (HS.out _ HBD.out) ?_; go_frame
    refine AnyT.next (i := 14) (by kernel_rfl) rfl (wpOp_of_list rfl ?_)
    go_wp2
    refine ⟨fun _ => HS.out _ HBD.out, ?_⟩
    refine AnyT.next (i := 15) (by kernel_rfl) rfl (wpOp_of_list rfl ?_)
    go_wp2
    refine ⟨fun _ => HS.out _ HBD.out, ?_⟩
    refine AnyT.done (by kernel_rfl) ?_ _
    go_wp2
    go_ret
    exact ⟨rfl, chain HBZ.out HBD.out⟩
  | true =>
    refine AnyT.next (i := 4) (by kernel_rfl) rfl (wpOp_of_list rfl ?_)
    go_wp2
    refine ⟨fun _ => HS.out _ HBD.out, ?_⟩
    refine AnyT.next (i := 5) (by kernel_rfl) rfl (wpOp_of_list rfl ?_)
    go_wp2
    refine ⟨fun _ => HS.out _ HBD.out, ?_⟩
    refine AnyT.takeD (i := 6) (v := .slice (some ⟨b, off, none⟩) n cap) rfl rfl (by kernel_rfl) (by kernel_rfl) (by kernel_rfl) (by first | exact (fun _ _ _ h => h) | exact (fun _ _ _ h => absurd h.1 (by simp))) (by kernel_rfl) (by rfl) (by rintro w' ⟨q0, q1, q2, q3, q4⟩; go_simp) (HS.out _ HBD.out) ?_; go_frame
    refine AnyT.takeD (i := 7) (v := .pointer (some ⟨b, off, none⟩)) rfl rfl (by kernel_rfl) (by kernel_rfl) (by kernel_rfl) (by first | exact (fun _ _ _ h => h) | exact (fun _ _ _ h => absurd h.1 (by simp))) (by kernel_rfl) (by rfl) (by rintro w' ⟨q0, q1, q2, q3, q4⟩; go_simp) (HS.out _ HBD.out) ?_; go_frame
    refine AnyT.takeD (i := 8) (v := .pointer (some ⟨b, off, none⟩)) rfl rfl (by kernel_rfl) (by kernel_rfl) (by kernel_rfl) (by first | exact (fun _ _ _ h => h) | exact (fun _ _ _ h => absurd h.1 (by simp))) (by kernel_rfl) (by rfl) (by rintro w' ⟨q0, q1, q2, q3, q4⟩; go_simp) (HS.out _ HBD.out) ?_; go_frame
    refine AnyT.takeD (i := 9) (v := .slice ra0 rn0 rc0) rfl rfl (by kernel_rfl) (by kernel_rfl) (by kernel_rfl) (by first | exact (fun _ _ _ h => h) | exact (fun _ _ _ h => absurd h.1 (by simp))) (by kernel_rfl) (by rfl) (by rintro w' ⟨q0, q1, q2, q3, q4⟩; go_simp) (HS.out _ HBD.out) ?_; go_frame
    refine AnyT.takeD (i := 10) (v := .int .i64 rn0) rfl rfl (by kernel_rfl) (by kernel_rfl) (by kernel_rfl) (by first | exact (fun _ _ _ h => h) | exact (fun _ _ _ h => absurd h.1 (by simp))) (by kernel_rfl) (by rfl) (by rintro w' ⟨q0, q1, q2, q3, q4⟩; go_simp) (HS.out _ HBD.out) ?_; go_frame
    refine AnyT.takeD (i := 11) (v := .agg #[.slice ra rn rc, .int .i64 c.lo, .int .i64 c.hi]) rfl rfl (by kernel_rfl) (by kernel_rfl) (by kernel_rfl) (by first | exact (fun _ _ _ h => h) | exact (fun _ _ _ h => absurd h.1 (by simp))) (by kernel_rfl) (by rfl) (by rintro w' ⟨q0, q1, q2, q3, q4⟩; go_simp) (HS.out _ HBD.out) ?_; go_frame
    refine AnyT.next (i := 12) (by kernel_rfl) rfl (wpOp_of_list rfl ?_)
    go_wp2_with (go_at_call 30; refine (HV.out _ HBD.out).mono ?_; rintro e w4 ⟨rfl, hb4⟩; refine Stop.of ?_)
    refine Stop.go ?_
    have HB4 := hid (chain HBD.out hb4)
    clear hb4
    go_wp2
    refine ⟨fun _ => HS.out _ HB4.out, ?_⟩
    refine AnyT.next (i := 13) (by kernel_rfl) rfl (wpOp_of_list rfl ?_)
    go_wp2
    refine ⟨fun _ => HS.out _ HB4.out, ?_⟩
    refine AnyT.next (i := 14) (by kernel_rfl) rfl (wpOp_of_list rfl ?_)
    go_wp2
    refine ⟨fun _ => HS.out _ HB4.out, ?_⟩
    refine AnyT.next (i := 15) (by kernel_rfl) rfl (wpOp_of_list rfl ?_)
    go_wp2
    refine ⟨fun _ => HS.out _ HB4.out, ?_⟩
    refine AnyT.done (by kernel_rfl) ?_ _
    go_wp2
    go_ret
    exact ⟨by cases G2 <;> rfl, chain HBZ.out HB4.out⟩

set_option maxRecDepth 100000 in
set_option maxHeartbeats 4000000 in
theorem listed_bc (w : World) (a : Option Addr) (n cap : Nat) (l : List Cel) (hn : l.length = n) (hm : n ≤ maxLen) (H : CellsAt w a l) :
    Calls Tryd.prog 19 #[.slice a n cap] w fun e w' => e = .returned (.bool (listB l)) ∧ Below w.heap.size w w' := by
  have HN := hid hn
  have hm' := hm
  unfold maxLen at hm'
  have hbz : Below w.heap.size w (w.alloc (.cells #[.slice a n cap] 24)) := (Below.refl _ _).alloc (Nat.le_refl _) _
  have eg := enters_of Tryd.func39 (by kernel_rfl) rfl
  have c0 : (w.alloc (.cells #[.slice a n cap] 24)).cell? ⟨w.heap.size, 0, none⟩ = some (.slice a n cap) := by rw [World.cell?_alloc_at _ _ _ _ rfl]; rfl
  have HC := hid (containsC (w.alloc (.cells #[.slice a n cap] 24)) a n cap l hn hm (H.below hbz) 39 #[.pointer (some ⟨w.heap.size, 0, none⟩)] (fun _ => 0 < l.length) (fun c => !(inB c.row.length 1 8 && okCell (headN l) c)) eg
      (listed1 _ w.heap.size (by simp) a n cap l hn (H.below hbz) c0) (fun c hc => List.length_pos_iff.2 (by intro e; rw [e] at hc; cases hc)))
  have HBZ := hid hbz
  clear hn H eg hm c0 hbz
  have hmf : ∀ (fn : Fn) (first cap : Array Value) (w : World), (Instr.makeFunc fn first cap).run Tryd.prog w = .ok (.func fn first cap) w := fun _ _ _ _ => rfl
  by_cases h2 : n ≤ 30
  all_goals
    go_enter Tryd.func19, Tryd.ntmps19
    go_wp2_with (go_at_call 28; refine HC.out.mono ?_; rintro e w2 ⟨rfl, hb2⟩)
    go_ret
    first
      | exact ⟨ret_bool (by rw [listB_head]; simp [h2, HN.out, List.all_eq_not_any_not]), chain HBZ.out hb2⟩
      | exact ⟨ret_bool (by rw [listB_head]; simp [h2, HN.out]), HBZ.out⟩
end Go.Proofs.YtofcpmfbeobgiaaDoor

namespace Go.Proofs.YtofcpmfbeobgiaaDoor
open Go.RowKit Go.Shelf
set_option linter.unusedVariables false

set_option maxRecDepth 100000 in
set_option maxHeartbeats 4000000 in
theorem refWritten_bc (w : World) (a : Option Addr) (n cap : Nat) (l : List Cel) (hn : l.length = n) (hm : n ≤ maxLen) (H : CellsAt w a l) :
    Calls Tryd.prog 22 #[.slice a n cap] w fun e w' => e = .returned (.bool (listB l)) ∧ Below w.heap.size w w' := by
  have HN := hid hn
  have HH := hid H
  obtain ⟨p, hp⟩ : ∃ p : Cel → Bool, p = fun c => inB c.row.length 1 8 && okCell (headN l) c := ⟨_, rfl⟩
  have HL := hid (show listB l = (decide (l.length ≤ 30) && l.all p) by rw [hp]; exact listB_head l)
  have HP := hid (fun c => congrFun hp c)
  clear hn H hp
  unfold maxLen at hm
  go_enter Tryd.func22, Tryd.ntmps22
  go_wp2
  go_loopw [7] (fun i wr => ∃ k : Nat, k ≤ n ∧ i = .int .i64 k ∧ Below w.heap.size w wr ∧ ∀ j (hj : j < l.length), j < k → p l[j] = true) (fun i _ => n - (intOf i).toNat)
  case atStart => exact ⟨0, Nat.zero_le _, rfl, Below.refl _ _, fun i _ h => by omega⟩
  case round =>
    obtain ⟨k, hk, rfl, hb, hno⟩ := hrel
    have HNO := hid hno
    clear hno
    by_cases hlt : k < n
    · have hkl : k < l.length := by rw [HN.out]; exact hlt
      have hok : 0 < l.length := by omega
      obtain ⟨b0, off0, ra0, rn0, rc0, ha0, hbs0, q0, -, -, hrn0, -, -⟩ := HH.out.below hb 0 hok
      obtain ⟨b, off, ra, rn, rc, rfl, hbs, h0, h1, h2, hrn, hrm, hri⟩ := HH.out.below hb k hkl
      cases ha0
      rw [Nat.zero_mul, Nat.add_zero] at q0
      obtain ⟨c, hc⟩ : ∃ c, c = l[k]'hkl := ⟨_, rfl⟩
      rw [← hc] at h1 h2 hrn hri
      have hhead : headN l = rn0 := by rw [headN_pos hok]; exact hrn0
      have hpc : p c = (inB c.row.length 1 8 && okCell (headN l) c) := HP.out c
      rw [hhead, hrn] at hpc
      have hn1 : 0 < n := by omega
      obtain ⟨wz, hwz, hbz, hsz, hcz⟩ := celBox wr c.lo c.hi ra rn rc
      have HWZ := hid hwz
      have HBZ := hid (chain hb hbz)
      have HS := hid (fun (X : World) (hX : Below wz.heap.size wz X) => show X.cell? ⟨wr.heap.size, 0, none⟩ = some (.slice ra rn rc) ∧ X.cell? ⟨wr.heap.size, 1, none⟩ = some (.int .i64 c.lo) ∧ X.cell? ⟨wr.heap.size, 2, none⟩ = some (.int .i64 c.hi) ∧ X.cell? ⟨b0, off0, none⟩ = some (.slice ra0 rn0 rc0) from
        ⟨(hcz X hX).1, (hcz X hX).2.1, (hcz X hX).2.2, ((chain hbz hX).cell (p := ⟨b0, off0, none⟩) hbs).trans q0⟩)
      have HV := hid (fun (X : World) (hX : Below wz.heap.size wz X) => refValidCell_c X (rn0 : Int) (.agg #[.slice ra rn rc, .int .i64 c.lo, .int .i64 c.hi]) c ⟨ra, rn, rc, rfl, hrn, hrm, hri.below (chain hbz hX)⟩)
      have HW := hid (fun (X : World) => in_c (rn : Int) 1 8 X)
      obtain ⟨G1, hG1⟩ : ∃ g, g = inB (rn : Int) 1 8 := ⟨_, rfl⟩
      obtain ⟨G2, hG2⟩ : ∃ g, g = okCell (rn0 : Int) c := ⟨_, rfl⟩
      rw [← hG1] at HW hpc
      rw [← hG2] at HV hpc
      have HC := hid (fun (h : k < l.length) => show c = l[k]'h from hc)
      have HPC := hid hpc
      clear hb q0 hrn0 hrn hri hhead hbz hsz hcz hG1 hG2 hc hpc hkl hok
      go_wp2_with fail
      rw [← HWZ.out]
      clear hwz
      refine plain_region (fun j X => wAll j = true → X.cell? ⟨wr.heap.size, 0, none⟩ = some (.slice ra rn rc) ∧ X.cell? ⟨wr.heap.size, 1, none⟩ = some (.int .i64 c.lo) ∧ X.cell? ⟨wr.heap.size, 2, none⟩ = some (.int .i64 c.hi) ∧ X.cell? ⟨b0, off0, none⟩ = some (.slice ra0 rn0 rc0)) (by kernel_rfl) ?_
      have hbd : Below wz.heap.size wz wz.drew := (Below.refl _ _).drew
      generalize wz.drew = wd at hbd ⊢
      clear h0 h1 h2
      refine AnyT.takeD (i := 0) (v := .pointer (some ⟨wr.heap.size, 0, none⟩)) rfl rfl (by kernel_rfl) (by kernel_rfl) (by kernel_rfl) (by first | exact (fun _ _ _ h => h) | exact (fun _ _ _ h => absurd h.1 (by simp))) (by kernel_rfl) (by rfl) (by rintro w' ⟨q0, q1, q2, q3⟩; go_simp) (HS.out _ hbd) ?_; go_frame
      refine AnyT.takeD (i := 1) (v := .slice ra rn rc) rfl rfl (by kernel_rfl) (by kernel_rfl) (by kernel_rfl) (by first | exact (fun _ _ _ h => h) | exact (fun _ _ _ h => absurd h.1 (by simp))) (by kernel_rfl) (by rfl) (by rintro w' ⟨q0, q1, q2, q3⟩; go_simp) (HS.out _ hbd) ?_; go_frame
      refine AnyT.takeD (i := 2) (v := .int .i64 rn) rfl rfl (by kernel_rfl) (by kernel_rfl) (by kernel_rfl) (by first | exact (fun _ _ _ h => h) | exact (fun _ _ _ h => absurd h.1 (by simp))) (by kernel_rfl) (by rfl) (by rintro w' ⟨q0, q1, q2, q3⟩; go_simp) (HS.out _ hbd) ?_; go_frame
      have HBD := hid hbd
      clear hbd
      refine AnyT.next (i := 3) (by kernel_rfl) rfl (wpOp_of_list rfl ?_)
      go_wp2_with (go_at_call 43; refine (HW.out _).mono ?_; rintro e w4 ⟨rfl, rfl⟩; refine Stop.of ?_)
      refine Stop.go ?_
      go_wp2
      refine ⟨fun _ => HS.out _ HBD.out, ?_⟩
      cases G1 with
      | false =>
        refine AnyT.next (i := 4) (by kernel_rfl) rfl (wpOp_of_list rfl ?_)
        go_wp2
        refine ⟨fun _ => HS.out _ HBD.out, ?_⟩
        refine AnyT.next (i := 5) (by kernel_rfl) rfl (wpOp_of_list rfl ?_)
        go_wp2
        refine ⟨fun _ => HS.out _ HBD.out, ?_⟩
        refine AnyT.takeDN (i := 6) rfl rfl (by kernel_rfl) (by kernel_rfl) (by kernel_rfl) (by first | exact (fun _ _ _ h => h) | exact (fun _ _ _ h => absurd h.1 (by simp))) (by kernel_rfl) (by rfl) (HS.out _ HBD.out) ?_; go_frame
        refine AnyT.takeDN (i := 7) rfl rfl (by kernel_rfl) (by kernel_rfl) (by kernel_rfl) (by first | exact (fun _ _ _ h => h) | exact (fun _ _ _ h => absurd h.1 (by simp))) (by kernel_rfl) (by rfl) (HS.out _ HBD.out) ?_; go_frame
        refine AnyT.takeDN (i := 8) rfl rfl (by kernel_rfl) (by kernel_rfl) (by kernel_rfl) (by first | exact (fun _ _ _ h => h) | exact (fun _ _ _ h => absurd h.1 (by simp))) (by kernel_rfl) (by rfl) (HS.out _ HBD.out) ?_; go_frame
        refine AnyT.takeDN (i := 9) rfl rfl (by kernel_rfl) (by kernel_rfl) (by kernel_rfl) (by first | exact (fun _ _ _ h => h) | exact (fun _ _ _ h => absurd h.1 (by simp))) (by kernel_rfl) (by rfl) (HS.out _ HBD.out) ?_; go_frame
        refine AnyT.takeDN (i := 10) rfl rfl (by kernel_rfl) (by kernel_rfl) (by kernel_rfl) (by first | exact (fun _ _ _ h => h) | exact (fun _ _ _ h => absurd h.1 (by simp))) (by kernel_rfl) (by rfl) (HS.out _ HBD.out) ?_; go_frame
        refine AnyT.takeDN (i := 11) rfl rfl (by kernel_rfl) (by kernel_rfl) (by kernel_rfl) (by first | exact (fun _ _ _ h => h) | exact (fun _ _ _ h => absurd h.1 (by simp))) (by kernel_rfl) (by rfl) (HS.out _ HBD.out) ?_; go_frame
        refine AnyT.takeDN (i := 12) rfl rfl (by kernel_rfl) (by kernel_rfl) (by kernel_rfl) (by first | exact (fun _ _ _ h => h) | exact (fun _ _ _ h => absurd h.1 (by simp))) (by kernel_rfl) (by rfl) (HS.out _ HBD.out) ?_; go_frame
        refine AnyT.takeDN (i := 13) rfl rfl (by kernel_rfl) (by kernel_rfl) (by kernel_rfl) (by first | exact (fun _ _ _ h => h) | exact (fun _ _ _ h => absurd h.1 (by simp))) (by kernel_rfl) (by rfl) (HS.out _ HBD.out) ?_; go_frame
        refine AnyT.next (i := 14) (by kernel_rfl) rfl (wpOp_of_list rfl ?_)
        go_wp2
        refine ⟨fun _ => HS.out _ HBD.out, ?_⟩
        refine AnyT.done (by kernel_rfl) ?_ _
        go_wp2
        go_ret
        refine ⟨ret_bool ?_, chain HBZ.out HBD.out⟩
        have hkl : k < l.length := by rw [HN.out]; exact hlt
        rw [HL.out, allC_stop (f := p) hkl (by rw [← (HC.out hkl)]; exact HPC.out)]; simp
      | true =>
        refine AnyT.next (i := 4) (by kernel_rfl) rfl (wpOp_of_list rfl ?_)
        go_wp2
        refine ⟨fun _ => HS.out _ HBD.out, ?_⟩
        refine AnyT.next (i := 5) (by kernel_rfl) rfl (wpOp_of_list rfl ?_)
        go_wp2
        refine ⟨fun _ => HS.out _ HBD.out, ?_⟩
        refine AnyT.takeD (i := 6) (v := .agg #[.slice ra rn rc, .int .i64 c.lo, .int .i64 c.hi]) rfl rfl (by kernel_rfl) (by kernel_rfl) (by kernel_rfl) (by first | exact (fun _ _ _ h => h) | exact (fun _ _ _ h => absurd h.1 (by simp))) (by kernel_rfl) (by rfl) (by rintro w' ⟨q0, q1, q2, q3⟩; go_simp) (HS.out _ HBD.out) ?_; go_frame
        refine AnyT.takeD (i := 7) (v := .slice (some ⟨b0, off0, none⟩) n cap) rfl rfl (by kernel_rfl) (by kernel_rfl) (by kernel_rfl) (by first | exact (fun _ _ _ h => h) | exact (fun _ _ _ h => absurd h.1 (by simp))) (by kernel_rfl) (by rfl) (by rintro w' ⟨q0, q1, q2, q3⟩; go_simp) (HS.out _ HBD.out) ?_; go_frame
        refine AnyT.takeD (i := 8) (v := .pointer (some ⟨b0, off0, none⟩)) rfl rfl (by kernel_rfl) (by kernel_rfl) (by kernel_rfl) (by first | exact (fun _ _ _ h => h) | exact (fun _ _ _ h => absurd h.1 (by simp))) (by kernel_rfl) (by rfl) (by rintro w' ⟨q0, q1, q2, q3⟩; go_simp) (HS.out _ HBD.out) ?_; go_frame
        refine AnyT.takeD (i := 9) (v := .pointer (some ⟨b0, off0, none⟩)) rfl rfl (by kernel_rfl) (by kernel_rfl) (by kernel_rfl) (by first | exact (fun _ _ _ h => h) | exact (fun _ _ _ h => absurd h.1 (by simp))) (by kernel_rfl) (by rfl) (by rintro w' ⟨q0, q1, q2, q3⟩; go_simp) (HS.out _ HBD.out) ?_; go_frame
        refine AnyT.takeD (i := 10) (v := .slice ra0 rn0 rc0) rfl rfl (by kernel_rfl) (by kernel_rfl) (by kernel_rfl) (by first | exact (fun _ _ _ h => h) | exact (fun _ _ _ h => absurd h.1 (by simp))) (by kernel_rfl) (by rfl) (by rintro w' ⟨q0, q1, q2, q3⟩; go_simp) (HS.out _ HBD.out) ?_; go_frame
        refine AnyT.takeD (i := 11) (v := .int .i64 rn0) rfl rfl (by kernel_rfl) (by kernel_rfl) (by kernel_rfl) (by first | exact (fun _ _ _ h => h) | exact (fun _ _ _ h => absurd h.1 (by simp))) (by kernel_rfl) (by rfl) (by rintro w' ⟨q0, q1, q2, q3⟩; go_simp) (HS.out _ HBD.out) ?_; go_frame
        refine AnyT.next (i := 12) (by kernel_rfl) rfl (wpOp_of_list rfl ?_)
        go_wp2_with (go_at_call 44; refine (HV.out _ HBD.out).mono ?_; rintro e w4 ⟨rfl, hb4⟩; refine Stop.of ?_)
        refine Stop.go ?_
        have HB4 := hid (chain HBD.out hb4)
        clear hb4
        go_wp2
        refine ⟨fun _ => HS.out _ HB4.out, ?_⟩
        refine AnyT.next (i := 13) (by kernel_rfl) rfl (wpOp_of_list rfl ?_)
        go_wp2
        refine ⟨fun _ => HS.out _ HB4.out, ?_⟩
        refine AnyT.next (i := 14) (by kernel_rfl) rfl (wpOp_of_list rfl ?_)
        go_wp2
        refine ⟨fun _ => HS.out _ HB4.out, ?_⟩
        refine AnyT.done (by kernel_rfl) ?_ _
        have hkl : k < l.length := by rw [HN.out]; exact hlt
        cases G2 with
        | false =>
          go_wp2
          go_ret
          refine ⟨ret_bool ?_, chain HBZ.out HB4.out⟩
          rw [HL.out, allC_stop (f := p) hkl (by rw [← (HC.out hkl)]; exact HPC.out)]; simp
        | true =>
          go_wp2
          refine ⟨⟨k + 1, by omega, by go_num, chain HBZ.out HB4.out, ?_⟩, by simp [intOf]; omega⟩
          intro j hj hjk
          by_cases e : j = k
          · subst e; rw [← (HC.out hj)]; exact HPC.out
          · exact HNO.out j hj (by omega)
    · have hall : l.all p = true := allC_done (fun j hj => HNO.out j hj (by have := HN.out; omega))
      have HA := hid hall
      clear hall
      by_cases h2 : n ≤ 30
      all_goals
        go_wp2
        go_ret
        exact ⟨ret_bool (by rw [HL.out, HA.out]; simp [HN.out, h2] <;> omega), hb⟩
end Go.Proofs.YtofcpmfbeobgiaaDoor

namespace Go.Proofs.YtofcpmfbeobgiaaDoor
open Go.RowKit Go.Shelf
set_option linter.unusedVariables false

def CelOk (c : Cel) : Prop := (∀ n ∈ c.row, -1 ≤ n ∧ n ≤ 1) ∧ isInt c.lo ∧ isInt c.hi ∧ c.row.length ≤ 8
theorem list_all {l : List Cel} (h : listB l = true) : l.length ≤ 30 ∧ ∀ c ∈ l, CelOk c := by
  unfold listB at h
  simp only [Bool.and_eq_true, List.all_eq_true, decide_eq_true_eq] at h
  refine ⟨h.1, fun c hc => ?_⟩
  have h1 := h.2 c hc
  unfold okCell okRow at h1
  simp only [Bool.and_eq_true, List.all_eq_true, inB, decide_eq_true_eq] at h1
  obtain ⟨⟨a1, a2⟩, ⟨⟨a3, a4⟩, a5, a6⟩, a7⟩ := h1
  exact ⟨fun n hn => a4 n hn, by unfold isInt; omega, by unfold isInt; omega, by omega⟩
theorem lineCL_len {c : Cel} (h : CelOk c) : (lineCL c).length ≤ 60 := by
  obtain ⟨_, h1, h2, h3⟩ := h
  have h4 := Lib.itoa_length_le c.lo h1.1 h1.2
  have h5 := Lib.itoa_length_le c.hi h2.1 h2.2
  unfold lineCL lineC signsC
  simp only [List.length_append, List.length_cons, List.length_map, List.length_nil]
  omega
theorem linesCL_len : ∀ {t : List Cel}, (∀ x ∈ t, (lineCL x).length ≤ 60) → (t.flatMap lineCL).length ≤ 60 * t.length
  | [], _ => by simp
  | x :: t, h => by
    have := linesCL_len (t := t) fun y hy => h y (by simp [hy])
    have := h x (by simp)
    rw [List.flatMap_cons, List.length_append, List.length_cons]; omega

set_option maxRecDepth 100000 in
set_option maxHeartbeats 4000000 in
theorem bFormat_c (w : World) (ht : Tab w) (a2 : Option Addr) (n2 cap2 : Nat) (fs : List Cel) (hn2 : fs.length = n2) (hm2 : n2 ≤ maxLen) (H2 : CellsAt w a2 fs) :
    Calls Tryd.prog 9 #[.slice a2 n2 cap2] w fun e w' => e = .returned (.string ⟨(formatB fs).toArray⟩) ∧ Below w.heap.size w w' := by
  have HV := hid (listed_bc w a2 n2 cap2 fs hn2 hm2 H2)
  cases hv : listB fs
  · have HE := hid (show formatB fs = [] by unfold formatB; rw [hv]; rfl)
    rw [hv] at HV
    clear hn2 H2 ht hv
    go_enter Tryd.func9, Tryd.ntmps9
    go_wp2_with (go_at_call 19; refine HV.out.mono ?_; rintro e w1 ⟨rfl, hb1⟩)
    go_ret
    exact ⟨by rw [HE.out]; rfl, hb1⟩
  obtain ⟨v2, v3⟩ := list_all hv
  have HE := hid (show formatB fs = fs.flatMap lineCL by unfold formatB; rw [hv]; rfl)
  have HLEN := hid (fun k => show ((fs.take k).flatMap lineCL).length ≤ 60 * 30 from by
    have h1 := linesCL_len (t := fs.take k) fun x hx => lineCL_len (v3 x (List.mem_of_mem_take hx))
    have : (fs.take k).length ≤ 30 := by rw [List.length_take]; omega
    omega)
  have HN := hid hn2
  have HH := hid H2
  have HFT := hid v3
  have hn60 : n2 ≤ 30 := by omega
  have HTAB := hid ht
  rw [hv] at HV
  clear hn2 H2 ht hv v2 v3
  go_enter Tryd.func9, Tryd.ntmps9
  go_wp2_with (go_at_call 19; refine HV.out.mono ?_; rintro e w1 ⟨rfl, hb1⟩)
  have HB1 := hid hb1
  clear hb1
  go_loopw [11] (fun i wr => ∃ k : Nat, k ≤ n2 ∧ i = .int .i64 k ∧ Lib.IsBuilder 61 5 w1.heap.size w1.heap.size (Lib.byteCells ((fs.take k).flatMap lineCL)) wr ∧ Below w1.heap.size w1 wr) (fun i _ => n2 - (intOf i).toNat)
  case atStart => exact ⟨0, Nat.zero_le _, rfl, Lib.fresh_isBuilder _ _ w1, (Below.refl _ _).alloc (Nat.le_refl _) _⟩
  case round =>
    obtain ⟨k, hk, rfl, hI, hbk⟩ := hrel
    by_cases hlt : k < n2
    · have hkl : k < fs.length := by rw [HN.out]; exact hlt
      have hbw := chain HB1.out hbk
      obtain ⟨b, off, ra, rn, rc, rfl, hbs, h0, h1, h2, hrn, hrm, hri⟩ := (HH.out.below hbw) k hkl
      have q1 := HFT.out fs[k] (List.getElem_mem hkl)
      have htk : (fs.take (k + 1)).flatMap lineCL = (fs.take k).flatMap lineCL ++ lineCL fs[k] := by rw [List.take_succ_eq_append_getElem hkl, List.flatMap_append]; simp
      have hwl := lineCL_len q1
      obtain ⟨x, hx⟩ : ∃ x, x = fs[k]'hkl := ⟨_, rfl⟩
      rw [← hx] at h1 h2 hrn hri q1 htk hwl
      obtain ⟨l, lo, hi⟩ := x
      simp only [] at h1 h2 hrn hri
      obtain ⟨p1, p2, p3, p4⟩ := q1
      simp only [] at p1 p2 p3 p4
      obtain ⟨wt, hwt, hb0, hbsz, hcells⟩ := celBox wr lo hi ra rn rc
      have HWr := hid (bwritten_c wt (HTAB.out.below (chain hbw hb0)) ra rn rc l lo hi hrn (by omega) (hri.below hb0) p1 p2 p3)
      obtain ⟨S, hS⟩ : ∃ S : ByteArray, S = ⟨(lineCL ⟨l, lo, hi⟩).toArray⟩ := ⟨_, rfl⟩
      have hSz : S.size ≤ 60 := by rw [hS, bytes_size]; exact hwl
      rw [← hS] at HWr
      obtain ⟨f0, f1, f2⟩ := hcells wt (Below.refl _ _)
      have hIt := isB_below hI hb0
      have HI := hid hIt
      have HWT := hid hwt
      have HB0 := hid (chain hbk hb0)
      have HS := hid hS
      have HTK := hid htk
      have HL := hid (HLEN.out k)
      have M1 := hid hbk.size
      clear hI hIt hwt hb0 hbsz hcells hrn hri p1 p2 p3 p4 htk hwl hx hS hbw hbk hkl
      go_wp2_with fail
      rw [← HWT.out]
      go_wp2_with (first
        | (go_at_call 20; refine HWr.out.mono ?_; rintro e w2 ⟨rfl, hb2⟩)
        | (go_at_call 25; refine (writeString_c w1.heap.size w1.heap.size _ S w2 (isB_below HI.out hb2) (by have := HL.out; rw [Lib.byteCells_length]; omega) (Nat.le_trans M1.out (Nat.le_trans (by rw [HWT.out]; simp <;> omega) hb2.size))).mono ?_; rintro e w3 ⟨rfl, hI3, hb3⟩; refine Stop.of ?_))
      refine Stop.go ?_
      have HI3 := hid hI3
      have HB3 := hid ((chain HB0.out hb2).trans hb3)
      clear hI3 hb3 hb2
      go_wp2
      refine ⟨⟨k + 1, by omega, by go_num, ?_, HB3.out⟩, by simp [intOf]; omega⟩
      rw [HTK.out, Lib.byteCells_append]
      have := HI3.out
      rw [HS.out] at this
      exact this
    · obtain rfl : k = n2 := by omega
      have hall : fs.take k = fs := List.take_of_length_le (by have := HN.out; omega)
      rw [hall] at hI
      have HI := hid hI
      have M1 := hid hbk.size
      have HBK := hid hbk
      clear hI hall hbk
      go_wp2_with (go_at_call 26; refine (Tryd.Builder_String_any w1.heap.size w1.heap.size (fs.flatMap lineCL) wr HI.out M1.out).mono ?_; rintro e w2 ⟨rfl, hb2⟩)
      go_ret
      exact ⟨by rw [HE.out]; rfl, chain HB1.out (HBK.out.trans hb2)⟩

set_option maxRecDepth 100000 in
set_option maxHeartbeats 4000000 in
theorem b7Format_c (w : World) (ht : Tab w) (a2 : Option Addr) (n2 cap2 : Nat) (fs : List Cel) (hn2 : fs.length = n2) (hm2 : n2 ≤ maxLen) (H2 : CellsAt w a2 fs) :
    Calls Tryd.prog 10 #[.slice a2 n2 cap2] w fun e w' => e = .returned (.string ⟨(formatB fs).toArray⟩) ∧ Below w.heap.size w w' := by
  have HV := hid (refWritten_bc w a2 n2 cap2 fs hn2 hm2 H2)
  cases hv : listB fs
  · have HE := hid (show formatB fs = [] by unfold formatB; rw [hv]; rfl)
    rw [hv] at HV
    clear hn2 H2 ht hv
    go_enter Tryd.func10, Tryd.ntmps10
    go_wp2_with (go_at_call 22; refine HV.out.mono ?_; rintro e w1 ⟨rfl, hb1⟩)
    go_ret
    exact ⟨by rw [HE.out]; rfl, hb1⟩
  obtain ⟨v2, v3⟩ := list_all hv
  have HE := hid (show formatB fs = fs.flatMap lineCL by unfold formatB; rw [hv]; rfl)
  have HN := hid hn2
  have HH := hid H2
  have HFT := hid v3
  have hn60 : n2 ≤ 30 := by omega
  have HTAB := hid ht
  rw [hv] at HV
  clear hn2 H2 ht hv v2 v3
  go_enter Tryd.func10, Tryd.ntmps10
  go_wp2_with (go_at_call 22; refine HV.out.mono ?_; rintro e w1 ⟨rfl, hb1⟩)
  have HB1 := hid hb1
  clear hb1
  go_loopw [3, 11] (fun s i wr => ∃ (k : Nat) (S : ByteArray), k ≤ n2 ∧ i = .int .i64 k ∧ s = .string S ∧ S.size ≤ 60 * k ∧ Hid (S = ⟨((fs.take k).flatMap lineCL).toArray⟩) ∧ Below w1.heap.size w1 wr) (fun _ i _ => n2 - (intOf i).toNat)
  case atStart => exact ⟨0, _, Nat.zero_le _, rfl, rfl, by simp [ByteArray.size], hid rfl, Below.refl _ _⟩
  case round =>
    obtain ⟨k, S, hk, rfl, rfl, hS, HS, hbk⟩ := hrel
    by_cases hlt : k < n2
    · have hkl : k < fs.length := by rw [HN.out]; exact hlt
      have hbw := chain HB1.out hbk
      obtain ⟨b, off, ra, rn, rc, rfl, hbs, h0, h1, h2, hrn, hrm, hri⟩ := (HH.out.below hbw) k hkl
      have q1 := HFT.out fs[k] (List.getElem_mem hkl)
      have htk : (fs.take (k + 1)).flatMap lineCL = (fs.take k).flatMap lineCL ++ lineCL fs[k] := by rw [List.take_succ_eq_append_getElem hkl, List.flatMap_append]; simp
      have hwl := lineCL_len q1
      obtain ⟨x, hx⟩ : ∃ x, x = fs[k]'hkl := ⟨_, rfl⟩
      rw [← hx] at h1 h2 hrn hri q1 htk hwl
      obtain ⟨l, lo, hi⟩ := x
      simp only [] at h1 h2 hrn hri
      obtain ⟨p1, p2, p3, p4⟩ := q1
      simp only [] at p1 p2 p3 p4
      obtain ⟨wt, hwt, hb0, hbsz, hcells⟩ := celBox wr lo hi ra rn rc
      have HLn := hid (bline_c wt (HTAB.out.below (chain hbw hb0)) ra rn rc l lo hi hrn (by omega) (hri.below hb0) p1 p2 p3)
      obtain ⟨I, hI⟩ : ∃ I : ByteArray, I = ⟨(lineC ⟨l, lo, hi⟩).toArray⟩ := ⟨_, rfl⟩
      have hIz : I.size ≤ 59 := by rw [hI, bytes_size]; unfold lineCL at hwl; rw [List.length_append, List.length_singleton] at hwl; omega
      rw [← hI] at HLn
      obtain ⟨J, hJ⟩ : ∃ J : ByteArray, J = I ++ ⟨#[10]⟩ := ⟨_, rfl⟩
      have hsp : (⟨#[10]⟩ : ByteArray).size = 1 := rfl
      have hJs : J.size ≤ 60 := by rw [hJ, ByteArray.size_append, hsp]; omega
      have hr1 : ∀ w, (Op.stringOp .add I ⟨#[10]⟩).run Tryd.prog w = .ok (.string J) w := fun w => by rw [run_string_add_sum w _ _ (by rw [hsp]; omega), hJ]
      obtain ⟨R, hR⟩ : ∃ R : ByteArray, R = S ++ J := ⟨_, rfl⟩
      have hRs : R.size ≤ 60 * (k + 1) := by rw [hR, ByteArray.size_append]; omega
      have hr2 : ∀ w, (Op.stringOp .add S J).run Tryd.prog w = .ok (.string R) w := fun w => by rw [run_string_add_sum w _ _ (by omega), hR]
      have hnew : Hid (R = ⟨((fs.take (k + 1)).flatMap lineCL).toArray⟩) := hid (by
        rw [hR, hJ, hI, HS.out, htk]
        rw [show (⟨#[10]⟩ : ByteArray) = ⟨[10].toArray⟩ from rfl, bytes_app, bytes_app]; rfl)
      obtain ⟨f0, f1, f2⟩ := hcells wt (Below.refl _ _)
      have HWT := hid hwt
      have HB0 := hid (chain hbk hb0)
      clear hR hJ hI hx htk hwl hIz hsp hJs hwt hb0 hbsz hcells hrn hri p1 p2 p3 p4 hkl hbk hbw
      go_wp2_with fail
      rw [← HWT.out]
      go_wp2_with (go_at_call 23; refine HLn.out.mono ?_; rintro e w2 ⟨rfl, hb2⟩)
      exact ⟨⟨k + 1, R, by omega, by go_num, rfl, hRs, hnew, chain HB0.out hb2⟩, by simp [intOf]; omega⟩
    · obtain rfl : k = n2 := by omega
      have hall : fs.take k = fs := List.take_of_length_le (by have := HN.out; omega)
      have HR := hid (show S = ⟨(fs.flatMap lineCL).toArray⟩ by rw [HS.out, hall])
      clear hall HS
      go_wp2
      go_ret
      exact ⟨by rw [HE.out, HR.out]; rfl, chain HB1.out hbk⟩
end Go.Proofs.YtofcpmfbeobgiaaDoor

namespace Go.Proofs.YtofcpmfbeobgiaaDoor
open Go.RowKit Go.Shelf
set_option linter.unusedVariables false

def CelT (W : World) (base : Nat) (S : Nat → Prop) (v : Value) (T : List Cel) : Prop :=
  ∃ xs, W.ownsRow base 36 3 v T.length xs ∧ (∀ k, v.ownBlock = some k → S k) ∧ ∀ j (hj : j < T.length), (xs[j * 3 + 1]? = some (.int .i64 T[j].lo) ∧ xs[j * 3 + 2]? = some (.int .i64 T[j].hi)) ∧ ∃ u, xs[j * 3]? = some u ∧ ElemI 3 W base S u T[j].row
theorem CelT.nil (W : World) (base : Nat) (S : Nat → Prop) : CelT W base S (.slice none 0 0) [] := ⟨[], World.ownsRow_nil _ _ _ _, fun k hk => by simp [Value.ownBlock] at hk, fun j hj => by simp at hj⟩
theorem CelT.slice {W : World} {base : Nat} {S : Nat → Prop} {v : Value} {T : List Cel} (h : CelT W base S v T) : ∃ a c, v = .slice a T.length c := by
  obtain ⟨xs, ho, _⟩ := h; exact ownsRow_slice ho
theorem CelT.keep {W W' : World} {base : Nat} {S S' K : Nat → Prop} {v : Value} {T : List Cel} (h : CelT W base S v T) (hk : Keep K W W') (hS : ∀ b, S b → b < W.heap.size → K b ∧ S' b) : CelT W' base S' v T := by
  obtain ⟨xs, ho, hg, he⟩ := h
  refine ⟨xs, ⟨ho.1, ?_⟩, fun k hk' => ?_, fun j hj => ?_⟩
  · rcases ho.2 with hn | ⟨g, cap, cur, rfl, hb, hgg, rest⟩
    · exact .inl hn
    · have hlt := (Array.getElem?_eq_some_iff.1 hgg).1
      exact .inr ⟨g, cap, cur, rfl, hb, (hk.block g hlt (hS g (hg g rfl) hlt).1).trans hgg, rest⟩
  · rcases ho.2 with ⟨rfl, _⟩ | ⟨g, cap, cur, rfl, hb, hgg, rest⟩
    · simp [Value.ownBlock] at hk'
    · obtain rfl : g = k := by simpa [Value.ownBlock] using hk'
      exact (hS g (hg g rfl) (Array.getElem?_eq_some_iff.1 hgg).1).2
  · obtain ⟨h1, u, hu, a, n, cap, e, hn, hm, hel⟩ := he j hj
    refine ⟨h1, u, hu, a, n, cap, e, hn, hm, fun i hi => ?_⟩
    obtain ⟨b, off, e, hSb, hb, hty, hc⟩ := hel i hi
    have hh := hS b hSb hb
    refine ⟨b, off, e, hh.2, Nat.lt_of_lt_of_le hb hk.size, ?_, hk.cell hc hh.1⟩
    rcases hty with h | ⟨c, f, h⟩
    · exact .inl h
    · exact .inr ⟨c, f, (hk.block b hb hh.1).trans h⟩
theorem CelT.below {W W' : World} {base : Nat} {S : Nat → Prop} {v : Value} {T : List Cel} (h : CelT W base S v T) (hb : Below W.heap.size W W') : CelT W' base S v T :=
  h.keep (Keep.of_below hb : Keep (fun _ => True) _ _) (fun _ h _ => ⟨trivial, h⟩)
theorem CelT.reads {W : World} {base : Nat} {S : Nat → Prop} {v : Value} {T : List Cel} (h : CelT W base S v T) : ∃ a cap, v = .slice a T.length cap ∧ T.length ≤ maxLen ∧ CellsAt W a T := by
  obtain ⟨xs, ho, hg, he⟩ := h
  rcases ho.2 with ⟨rfl, h0⟩ | ⟨g, cap, cur, rfl, hbg, hgg, hnc, hcm, hsz, htk⟩
  · exact ⟨none, 0, by rw [h0], by rw [h0]; decide, fun j hj => by omega⟩
  · refine ⟨_, cap, rfl, by omega, fun j hj => ?_⟩
    obtain ⟨h1, u, h2, h3⟩ := he j hj
    have hc : ∀ i, i < T.length * 3 → W.cell? ⟨g, i, none⟩ = xs[i]? := fun i hi =>
      World.ownsRow.cellAt (w := W) (base := base) (e := 36) (size := 3) (g := g) (n := T.length) (cap := cap) (xs := xs) ⟨ho.1, .inr ⟨g, cap, cur, rfl, hbg, hgg, hnc, hcm, hsz, htk⟩⟩ i hi
    obtain ⟨sa, sn, sc, rfl, _⟩ := id h3
    obtain ⟨k1, k2, k3⟩ := h3.ints
    exact ⟨g, 0, sa, sn, sc, rfl, (Array.getElem?_eq_some_iff.1 hgg).1, by rw [Nat.zero_add, hc _ (by omega)]; exact h2, by rw [Nat.zero_add, hc _ (by omega)]; exact h1.1, by rw [Nat.zero_add, hc _ (by omega)]; exact h1.2, k1, k2, k3⟩
theorem CelT.snoc {W w1 w2 : World} {base : Nat} {S : Nat → Prop} {v v' u : Value} {T : List Cel} {f : Cel} {xs : List Value}
    (ho : W.ownsRow base 36 3 v T.length xs) (he : ∀ j (hj : j < T.length), (xs[j * 3 + 1]? = some (.int .i64 T[j].lo) ∧ xs[j * 3 + 2]? = some (.int .i64 T[j].hi)) ∧ ∃ u, xs[j * 3]? = some u ∧ ElemI 3 W base S u T[j].row)
    (h2 : ElemI 3 W base S u f.row)
    (hW1 : Below W.heap.size W w1) (hg : w1.grownBy w2 v.ownBlock) (ho' : w2.ownsRow base 36 3 v' (T.length + 1) (xs ++ [u, .int .i64 f.lo, .int .i64 f.hi])) (hS' : ∀ k, v'.ownBlock = some k → S k) : CelT w2 base S v' (T ++ [f]) := by
  have hlen : xs.length = T.length * 3 := ho.1
  have hgb : ∀ b, (b < base ∨ ∃ c f, W.heap[b]? = some (.cells c 3 f)) → b < W.heap.size → w2.heap[b]? = W.heap[b]? := by
    intro b hty hb
    refine (hg.block b (Nat.lt_of_lt_of_le hb hW1.size) ?_).trans (hW1.block b hb)
    rcases ho.2 with ⟨rfl, _⟩ | ⟨g, cap, cur, rfl, hbg, hgg, _⟩
    · simp [Value.ownBlock]
    · intro e
      obtain rfl : b = g := by simpa [Value.ownBlock] using e
      rcases hty with h | ⟨c, f, h⟩
      · omega
      · rw [h] at hgg; cases hgg
  have hel : ∀ u l, ElemI 3 W base S u l → ElemI 3 w2 base S u l := by
    intro u l h
    refine h.keep (T := fun b => b < W.heap.size ∧ (b < base ∨ ∃ c f, W.heap[b]? = some (.cells c 3 f))) ⟨hg.os.trans hW1.os, hg.tape.trans hW1.tape, hg.output.trans hW1.output, Nat.le_trans hW1.size hg.size, fun k hk hT => hgb k hT.2 hk⟩ fun b _ hb hty => ⟨hb, hty⟩
  refine ⟨xs ++ [u, .int .i64 f.lo, .int .i64 f.hi], by rw [List.length_append]; exact ho', hS', fun j hj => ?_⟩
  by_cases e : j < T.length
  · obtain ⟨⟨k1, k1'⟩, u', k2, k3⟩ := he j e
    refine ⟨⟨?_, ?_⟩, u', ?_, ?_⟩
    · rw [List.getElem?_append_left (by omega), List.getElem_append_left e]; exact k1
    · rw [List.getElem?_append_left (by omega), List.getElem_append_left e]; exact k1'
    · rw [List.getElem?_append_left (by omega)]; exact k2
    · rw [List.getElem_append_left e]; exact hel _ _ k3
  · have : j = T.length := by simp at hj; omega
    subst this
    refine ⟨⟨?_, ?_⟩, u, ?_, ?_⟩
    · rw [List.getElem?_append_right (by omega), hlen, show T.length * 3 + 1 - T.length * 3 = 1 by omega]; simp
    · rw [List.getElem?_append_right (by omega), hlen, show T.length * 3 + 2 - T.length * 3 = 2 by omega]; simp
    · rw [List.getElem?_append_right (by omega), hlen]; simp
    · simp only [List.getElem_append_right (Nat.le_refl _), Nat.sub_self, List.getElem_cons_zero]; exact hel _ _ h2
def CBox (W : World) (b : Nat) (y : Value) (lo hi : Int) : Prop := W.heap[b]? = some (.cells #[y, .int .i64 lo, .int .i64 hi] 36 (0, 0))
theorem CBox.lt {W : World} {b : Nat} {y : Value} {lo hi : Int} (h : CBox W b y lo hi) : b < W.heap.size := (Array.getElem?_eq_some_iff.1 h).1
theorem CBox.cell0 {W : World} {b : Nat} {y : Value} {lo hi : Int} (h : CBox W b y lo hi) : W.cell? ⟨b, 0, none⟩ = some y := by simp [World.cell?, show W.heap[b]? = _ from h]
theorem CBox.cell1 {W : World} {b : Nat} {y : Value} {lo hi : Int} (h : CBox W b y lo hi) : W.cell? ⟨b, 1, none⟩ = some (.int .i64 lo) := by simp [World.cell?, show W.heap[b]? = _ from h]
theorem CBox.cell2 {W : World} {b : Nat} {y : Value} {lo hi : Int} (h : CBox W b y lo hi) : W.cell? ⟨b, 2, none⟩ = some (.int .i64 hi) := by simp [World.cell?, show W.heap[b]? = _ from h]
theorem CBox.frozen {W : World} {b : Nat} {y : Value} {lo hi : Int} (h : CBox W b y lo hi) (j : Nat) : W.frozen? ⟨b, j, none⟩ = false := by simp [World.frozen?, show W.heap[b]? = _ from h]
theorem CBox.keep {W W' : World} {b : Nat} {y : Value} {lo hi : Int} (h : CBox W b y lo hi) (hk : W'.heap[b]? = W.heap[b]?) : CBox W' b y lo hi := hk.trans h
theorem CBox.set0 {W : World} {b : Nat} {y : Value} {lo hi : Int} (h : CBox W b y lo hi) (z : Value) : CBox (W.setCell ⟨b, 0, none⟩ z) b z lo hi := by
  have := cells_set h 0 z
  simpa [CBox] using this
theorem CBox.set1 {W : World} {b : Nat} {y : Value} {lo hi : Int} (h : CBox W b y lo hi) (z : Int) : CBox (W.setCell ⟨b, 1, none⟩ (.int .i64 z)) b y z hi := by
  have := cells_set h 1 (.int .i64 z)
  simpa [CBox] using this
theorem CBox.set2 {W : World} {b : Nat} {y : Value} {lo hi : Int} (h : CBox W b y lo hi) (z : Int) : CBox (W.setCell ⟨b, 2, none⟩ (.int .i64 z)) b y lo z := by
  have := cells_set h 2 (.int .i64 z)
  simpa [CBox] using this
theorem CBox.made (W : World) (y : Value) (lo hi : Int) : CBox (W.alloc (.cells #[y, .int .i64 lo, .int .i64 hi] 36)) W.heap.size y lo hi := World.alloc_heap_new _ _
end Go.Proofs.YtofcpmfbeobgiaaDoor

namespace Go.Proofs.YtofcpmfbeobgiaaDoor
open Go.RowKit Go.Shelf
set_option linter.unusedVariables false

theorem news2B (w : World) (x0 x1 : Value) (T : TypeId) : ∀ ad, (some ⟨w.heap.size, 0, none⟩ : Option Addr) = some ad → ∀ j u, [x0, x1][j]? = some u → (w.alloc (.cells #[x0, x1] T)).cell? (ad.add j) = some u := by
  intro ad e j u hu
  cases e
  match j, hu with
  | 0, hu => rw [Addr.add_lit, World.cell?_alloc_at _ _ _ _ rfl]; simpa using hu
  | 1, hu => rw [Addr.add_lit, World.cell?_alloc_at _ _ _ _ rfl]; simpa using hu

theorem news3B (w : World) (x0 x1 x2 : Value) (T : TypeId) : ∀ ad, (some ⟨w.heap.size, 0, none⟩ : Option Addr) = some ad → ∀ j u, [x0, x1, x2][j]? = some u → (w.alloc (.cells #[x0, x1, x2] T)).cell? (ad.add j) = some u := by
  intro ad e j u hu
  cases e
  match j, hu with
  | 0, hu => cases hu; rw [show (⟨w.heap.size, 0, none⟩ : Addr).add 0 = ⟨w.heap.size, 0, none⟩ from rfl, World.cell?_alloc_at _ _ _ _ rfl]; rfl
  | 1, hu => cases hu; rw [show (⟨w.heap.size, 0, none⟩ : Addr).add 1 = ⟨w.heap.size, 1, none⟩ from rfl, World.cell?_alloc_at _ _ _ _ rfl]; rfl
  | 2, hu => cases hu; rw [show (⟨w.heap.size, 0, none⟩ : Addr).add 2 = ⟨w.heap.size, 2, none⟩ from rfl, World.cell?_alloc_at _ _ _ _ rfl]; rfl
def InC (wo w4 : World) (xb : Nat) (lo hi : Int) (l : List Int) (W : World) : Prop :=
  wo.heap.size ≤ xb ∧ xb < w4.heap.size ∧ Below wo.heap.size wo W ∧ Keep (fun k => k ≠ xb) w4 W ∧ ∃ v, CBox W xb v lo hi ∧ W.ownsRow w4.heap.size 3 1 v l.length (l.map (Value.int .i64))
theorem InC.start {wo w4 : World} {xb : Nat} {lo hi : Int} (h1 : wo.heap.size ≤ xb) (hb : Below wo.heap.size wo w4) (hx : CBox w4 xb (.slice none 0 0) lo hi) : InC wo w4 xb lo hi [] w4 :=
  ⟨h1, hx.lt, hb, Keep.refl _ _, _, hx, World.ownsRow_nil _ _ _ _⟩
theorem InC.below {wo w4 : World} {xb : Nat} {lo hi : Int} {l : List Int} {W W' : World} (h : InC wo w4 xb lo hi l W) (hb : Below W.heap.size W W') : InC wo w4 xb lo hi l W' := by
  obtain ⟨h1, h2, h3, h4, v, h5, h6⟩ := h
  exact ⟨h1, h2, chain h3 hb, h4.trans (Keep.of_below hb), v, h5.keep (hb.block _ h5.lt), own_below h6 hb⟩
theorem InC.cur {wo w4 : World} {xb : Nat} {lo hi : Int} {l : List Int} {W : World} (h : InC wo w4 xb lo hi l W) : ∃ a c, W.cell? ⟨xb, 0, none⟩ = some (.slice a l.length c) ∧ W.cell? ⟨xb, 1, none⟩ = some (.int .i64 lo) ∧ W.cell? ⟨xb, 2, none⟩ = some (.int .i64 hi) ∧
    W.ownsRow w4.heap.size 3 1 (.slice a l.length c) l.length (l.map (Value.int .i64)) ∧ w4.heap.size ≤ W.heap.size ∧
    ∀ (z : Int) a' c' W0 W1, Below W.heap.size W W0 → W0.grownBy W1 (Value.slice a l.length c).ownBlock → W1.ownsRow w4.heap.size 3 1 (.slice a' (l.length + 1) c') (l.length + 1) (l.map (Value.int .i64) ++ [.int .i64 z]) →
      (∃ u, W1.cell? ⟨xb, 0, none⟩ = some u) ∧ W1.frozen? ⟨xb, 0, none⟩ = false ∧ InC wo w4 xb lo hi (l ++ [z]) (W1.setCell ⟨xb, 0, none⟩ (.slice a' (l.length + 1) c')) := by
  obtain ⟨h1, h2, h3, h4, v, h5, h6⟩ := h
  obtain ⟨a, c, rfl⟩ := ownsRow_slice h6
  refine ⟨a, c, h5.cell0, h5.cell1, h5.cell2, h6, h4.size, fun z a' c' W0 W1 hb hg ho => ?_⟩
  have hne : ∀ k, (Value.slice a l.length c).ownBlock = some k → w4.heap.size ≤ k := fun k hk => (h6.lt k hk).1
  have k1 : Keep (fun k => k < w4.heap.size) W0 W1 := (Keep.grown hg).mono fun k hk e => by have := hne k e.symm; omega
  have k2 : Keep (fun k => k < w4.heap.size) W W1 := (Keep.of_below hb).trans k1
  have hx1 : CBox W1 xb (.slice a l.length c) lo hi := h5.keep (k2.block xb h5.lt h2)
  have k3 := Keep.set W1 xb 0 (.slice a' (l.length + 1) c')
  refine ⟨⟨_, hx1.cell0⟩, hx1.frozen 0, h1, h2, ?_, ?_, _, hx1.set0 _, ?_⟩
  · exact below_set (k2.below h3 h3.size fun k hk => by omega) h1 _ _
  · refine ⟨k2.os.trans h4.os, k2.tape.trans h4.tape, k2.output.trans h4.output, ?_, fun k hk hq => ?_⟩
    · have : (W1.setCell ⟨xb, 0, none⟩ (.slice a' (l.length + 1) c')).heap.size = W1.heap.size := by simp [World.setCell]
      rw [this]; exact Nat.le_trans h4.size k2.size
    · exact (k3.block k (Nat.lt_of_lt_of_le hk (Nat.le_trans h4.size k2.size)) hq).trans ((k2.block k (Nat.lt_of_lt_of_le hk h4.size) hk).trans (h4.block k hk hq))
  · rw [List.length_append, List.map_append]
    exact own_keepB ho k3 fun k hk => by omega

theorem elem_grownC {W w1 w2 : World} {base n : Nat} {S : Nat → Prop} {v u : Value} {l : List Int} {xs : List Value} (ho : W.ownsRow base 36 3 v n xs) (h : ElemI 3 W base S u l) (hW1 : Below W.heap.size W w1) (hg : w1.grownBy w2 v.ownBlock) : ElemI 3 w2 base S u l := by
  have hgb : ∀ b, (b < base ∨ ∃ c f, W.heap[b]? = some (.cells c 3 f)) → b < W.heap.size → w2.heap[b]? = W.heap[b]? := by
    intro b hty hb
    refine (hg.block b (Nat.lt_of_lt_of_le hb hW1.size) ?_).trans (hW1.block b hb)
    rcases ho.2 with ⟨rfl, _⟩ | ⟨g, cap, cur, rfl, hbg, hgg, _⟩
    · simp [Value.ownBlock]
    · intro e
      obtain rfl : b = g := by simpa [Value.ownBlock] using e
      rcases hty with h | ⟨c, f, h⟩
      · omega
      · rw [h] at hgg; cases hgg
  refine h.keep (T := fun b => b < W.heap.size ∧ (b < base ∨ ∃ c f, W.heap[b]? = some (.cells c 3 f))) ⟨hg.os.trans hW1.os, hg.tape.trans hW1.tape, hg.output.trans hW1.output, Nat.le_trans hW1.size hg.size, fun k hk hT => hgb k hT.2 hk⟩ fun b _ hb hty => ⟨hb, hty⟩

theorem rstepB_no {acc : List Cel} {s : List UInt8} (h : ¬ ((Lib.cut s [10]).2.2 = true ∧ listB (acc ++ [celW (((wordsF (Lib.cut s [10]).1)[2]?.getD []).map signR) (wordsF (Lib.cut s [10]).1)]) = true ∧ lineC (celW (((wordsF (Lib.cut s [10]).1)[2]?.getD []).map signR) (wordsF (Lib.cut s [10]).1)) = (Lib.cut s [10]).1)) : rstepB acc s = none := by
  unfold rstepB; simp only []; rw [if_neg h]
theorem rstepB_yes {acc : List Cel} {s : List UInt8} (h : (Lib.cut s [10]).2.2 = true ∧ listB (acc ++ [celW (((wordsF (Lib.cut s [10]).1)[2]?.getD []).map signR) (wordsF (Lib.cut s [10]).1)]) = true ∧ lineC (celW (((wordsF (Lib.cut s [10]).1)[2]?.getD []).map signR) (wordsF (Lib.cut s [10]).1)) = (Lib.cut s [10]).1) : rstepB acc s = some (celW (((wordsF (Lib.cut s [10]).1)[2]?.getD []).map signR) (wordsF (Lib.cut s [10]).1), (Lib.cut s [10]).2.1) := by
  unfold rstepB; simp only []; rw [if_pos h]
theorem cell_blkB {W W' : World} {b o : Nat} {v : Value} (h : W.cell? ⟨b, o, none⟩ = some v) (hk : W'.heap[b]? = W.heap[b]?) : W'.cell? ⟨b, o, none⟩ = some v := by
  unfold World.cell? at h ⊢
  simp only [hk]
  exact h
theorem stepB_bound {acc : List Cel} {x : Cel} (h : listB (acc ++ [x]) = true) : (acc ++ [x]).length ≤ 30 := (list_all h).1

set_option maxRecDepth 100000 in
set_option maxHeartbeats 8000000 in
theorem b7Parse_c (w : World) (hX : TabX w) (s : ByteArray) (hsm : s.size ≤ 9223372036854775807) :
    Calls Tryd.prog 7 #[.string s] w fun e w' => ∃ v, e = .returned (.tuple #[v, .int .i64 ((parseBF s.data.toList).2.1 : Nat), .int .i64 (parseBF s.data.toList).2.2]) ∧ CelT w' w.heap.size (fun _ => True) v (parseBF s.data.toList).1 ∧ Below w.heap.size w w' := by
  have hsz : s.data.toList.length = s.size := (Lib.size_eq s).symm
  by_cases hbig : 65536 < s.size
  · have HE := hid (show parseBF s.data.toList = ([], 0, 3) by unfold parseBF; rw [if_pos (by omega)])
    clear hX hsz
    go_enter Tryd.func7, Tryd.ntmps7
    go_wp2
    refine bodyPost_ret (v := .tuple #[.slice none 0 0, .int .i64 0, .int .i64 3]) (by simp [results, Tryd.results7, go_sem]) rfl ?_
    exact ⟨.slice none 0 0, by rw [HE.out]; rfl, by rw [HE.out]; exact CelT.nil _ _ _, Below.refl _ _⟩
  have hPT : parseBF s.data.toList = parseB s.size [] s.data.toList := by unfold parseBF; rw [if_neg (by omega), hsz]
  obtain ⟨PT, hPTe⟩ : ∃ P, P = parseBF s.data.toList := ⟨_, rfl⟩
  rw [← hPTe] at hPT ⊢
  have HX := hid hX
  have HPT := hid hPT
  have hs6 : s.size ≤ 65536 := by omega
  clear hX hPT hPTe hsz hbig
  go_enter Tryd.func7, Tryd.ntmps7
  go_wp2
  go_loopw [0, 2, 5] (fun s0 v i wr => ∃ (acc : List Cel) (B : ByteArray) (f : Nat), s0 = .string B ∧ i = .int .i64 acc.length ∧ acc.length ≤ 30 ∧ CelT wr w.heap.size (fun _ => True) v acc ∧ B.size ≤ f ∧ B.size ≤ s.size ∧ Hid (PT = parseB f acc B.data.toList) ∧ Below w.heap.size w wr) (fun s0 _ _ _ => strV s0)
  case atStart => exact ⟨[], s, s.size, rfl, rfl, Nat.zero_le _, CelT.nil _ _ _, Nat.le_refl _, Nat.le_refl _, hid HPT.out, Below.refl _ _⟩
  case round =>
    obtain ⟨acc, B, f, rfl, rfl, hk, hto, hBf, hBs, HPF, hb⟩ := hrel
    obtain ⟨va, vc, rfl⟩ := hto.slice
    obtain ⟨k, hke⟩ : ∃ k, k = acc.length := ⟨_, rfl⟩
    rw [← hke] at hk hto ⊢
    have HK := hid hke
    have HTO := hid hto
    have HB := hid hb
    clear hke hto hb
    by_cases hB0 : B.size = 0
    · have hBe := bytes_nil hB0
      subst hBe
      have HR := hid (show PT = (acc, 0, 0) from by rw [HPF.out]; exact parseB_end f acc)
      clear hB0
      go_wp2
      refine bodyPost_ret (v := .tuple #[.slice va k vc, .int .i64 0, .int .i64 0]) (by simp [results, Tryd.results7, go_sem]) rfl ?_
      exact ⟨.slice va k vc, by rw [HR.out]; rfl, by rw [HR.out]; exact HTO.out, HB.out⟩
    have hcond : B.data.toList ≠ [] := by intro h; apply hB0; rw [Lib.size_eq, h]; rfl
    have q1 : ¬ B.toList = [] := by rw [Lib.toList_data]; exact hcond
    have q2 : (B.toList == []) = false := by simpa using q1
    have q3 : (B.toList != []) = true := by simpa using q1
    have hBz : B.data.toList.length = B.size := (Lib.size_eq B).symm
    have e10 : (⟨#[10]⟩ : ByteArray).data.toList = [10] := rfl
    have HC1 := hid (fun (W : World) (hb : Below wr.heap.size wr W) => cut_c W (HX.out.below (chain HB.out hb)) B ⟨#[10]⟩ (by omega))
    rw [e10] at HC1
    have hno := fun h => rstepB_no (acc := acc) (s := B.data.toList) h
    have hyes := fun h => rstepB_yes (acc := acc) (s := B.data.toList) h
    have hl1 := cut_rest_le B.data.toList [10]
    obtain ⟨c1, hc1⟩ : ∃ c, c = (Lib.cut B.data.toList [10]).1 := ⟨_, rfl⟩
    obtain ⟨c2, hc2⟩ : ∃ c, c = (Lib.cut B.data.toList [10]).2.1 := ⟨_, rfl⟩
    obtain ⟨c3, hc3⟩ : ∃ c, c = (Lib.cut B.data.toList [10]).2.2 := ⟨_, rfl⟩
    rw [← hc1, ← hc2, ← hc3] at HC1
    rw [← hc1, ← hc3] at hno
    rw [← hc1, ← hc2, ← hc3] at hyes
    rw [← hc1, ← hc2] at hl1
    obtain ⟨T1, hT1⟩ : ∃ T : ByteArray, T = ⟨c1.toArray⟩ := ⟨_, rfl⟩
    obtain ⟨T2, hT2⟩ : ∃ T : ByteArray, T = ⟨c2.toArray⟩ := ⟨_, rfl⟩
    have hT1d : T1.data.toList = c1 := by rw [hT1]
    have hT2d : T2.data.toList = c2 := by rw [hT2]
    have hT1z : T1.size ≤ 65536 := by rw [hT1, bytes_size]; omega
    have hT2z : T2.size = c2.length := by rw [hT2, bytes_size]
    rw [← hT1, ← hT2] at HC1
    have HSp := hid (fun (W : World) (hb : Below wr.heap.size wr W) => split_c W (HX.out.below (chain HB.out hb)) T1 hT1z)
    rw [hT1d] at HSp
    have hw1 := words_le c1
    have hwl := fun x hx => word_le c1 x hx
    have hwne := words_ne c1
    obtain ⟨ws, hws⟩ : ∃ ws, ws = wordsF c1 := ⟨_, rfl⟩
    rw [← hws] at HSp hw1 hwl hwne hno hyes
    obtain ⟨lo, hlo⟩ : ∃ x, x = atV (ws[0]?.getD []) := ⟨_, rfl⟩
    obtain ⟨hi, hhi⟩ : ∃ x, x = atV (ws[1]?.getD []) := ⟨_, rfl⟩
    obtain ⟨W2, hW2⟩ : ∃ x, x = ws[2]?.getD [] := ⟨_, rfl⟩
    obtain ⟨rw2, hrw2⟩ : ∃ x, x = W2.map signR := ⟨_, rfl⟩
    have hcel : celW ((ws[2]?.getD []).map signR) ws = ⟨rw2, lo, hi⟩ := by unfold celW; rw [hrw2, hW2, hlo, hhi]
    rw [hcel] at hno hyes
    have HNO := hid (fun h => show PT = ([], k, 2) from by
      have h1 : rstepB acc B.data.toList = none := hno h
      rw [HPF.out, parseB_bad hcond h1, ← HK.out])
    have HYES := hid (fun h => show PT = parseB (f - 1) (acc ++ [⟨rw2, lo, hi⟩]) c2 ∧ c2.length < B.size from by
      have h1 : rstepB acc B.data.toList = some (⟨rw2, lo, hi⟩, c2) := hyes h
      have h2 := rstepB_less h1
      refine ⟨?_, by rw [← hBz]; exact h2⟩
      rw [HPF.out, show f = (f - 1) + 1 by omega, parseB_step hcond h1]
      rfl)
    have HT2 := hid (And.intro hT2d hT2z)
    have HT1 := hid hT1d
    have HW1 := hid (And.intro hw1 (And.intro hwl hwne))
    have HC1L := hid (show c1.length ≤ 65536 by omega)
    have HLO := hid hlo
    have HHI := hid hhi
    have HW2 := hid hW2
    have HRW := hid hrw2
    clear hno hyes hl1 hc1 hc2 hc3 hT1 hT2 hT1d hT2d hT2z hw1 hwl hwne hws hcond e10 hT1z hlo hhi hW2 hrw2 hcel
    go_wp2_with (go_at_call 21; refine (HC1.out _ (Below.refl _ _)).mono ?_; rintro e w2 ⟨rfl, hb2⟩; refine Stop.of ?_)
    refine Stop.go ?_
    have HB2 := hid hb2
    clear hb2
    go_wp2_with (go_at_call 15; refine (HSp.out _ HB2.out).mono ?_; rintro e w3 ⟨L, hL, rfl, hw3⟩; have HW3 := hid hw3; clear hw3; refine Stop.of ?_)
    refine Stop.go ?_
    have hLl : L.length = ws.length := by rw [← hL, List.length_map]
    have hL0 : 0 < L.length := by rw [hLl]; exact List.length_pos_iff.2 HW1.out.2.2
    have hLN : L.length ≤ 65537 := by have := HW1.out.1; have := HC1L.out; omega
    have hwe : ∀ j : Nat, ws[j]?.getD [] = ((L ++ [(⟨#[]⟩ : ByteArray), ⟨#[]⟩])[j]?.getD (⟨#[]⟩ : ByteArray)).data.toList := by
      intro j
      rw [← hL, List.getElem?_map]
      by_cases hj : j < L.length
      · rw [List.getElem?_append_left hj, List.getElem?_eq_getElem hj]; rfl
      · rw [List.getElem?_eq_none (by omega), List.getElem?_append_right (by omega)]
        rcases h : j - L.length with _ | _ | m <;> simp
    have hown3 : w3.ownsRow w2.heap.size 9 1 (.slice (some ⟨w2.heap.size, 0, none⟩) L.length L.length) L.length (L.map Value.string) := by
      rw [HW3.out]
      have := World.ownsRow_lit (base := w2.heap.size) (e := 9) (size := 1) w2 (L.map Value.string).toArray L.length (Nat.le_refl _) (by unfold maxLen; omega) (by simp)
      simpa using this
    have hb3 : Below w2.heap.size w2 w3 := by rw [HW3.out]; exact (Below.refl _ _).alloc (Nat.le_refl _) _
    have HWE := hid hwe
    have HB3 := hid (chain HB2.out hb3)
    have HB23 := hid hb3
    have HO3 := hid hown3
    obtain ⟨N, hN⟩ : ∃ N, N = L.length := ⟨_, rfl⟩
    rw [← hN] at hLN hL0 HO3 ⊢
    have HN := hid hN
    have HLL := hid hLl
    clear hb3 hLl hL hown3 hwe HW3 hN
    have HN5 := hid (news2B w3 (.string ⟨#[]⟩) (.string ⟨#[]⟩) 9)
    have HO2 := hid (show ∀ u ∈ [Value.string ⟨#[]⟩, .string ⟨#[]⟩], u.oneCell' = true from by intro u hu; simp at hu; subst hu; rfl)
    have M1 := hid (show N + 2 ≤ maxLen by unfold maxLen; omega)
    have M2 := hid (show (N + 2) * 16 ≤ 140737488355328 by omega)
    have M3 := hid (Nat.le_trans HB23.out.size (le_alloc w3 (.cells #[.string ⟨#[]⟩, .string ⟨#[]⟩] 9)))
    have HLA := hid (HB23.out.alloc HB23.out.size (.cells #[.string ⟨#[]⟩, .string ⟨#[]⟩] 9))
    go_wp2_with (at_builtin; refine wpList_app _ rfl (.tmp 27) (.tmp 28) 46 rfl w2.heap.size 9 (.string ⟨#[]⟩) 1 16 Tryd.underlying46 info_str rfl Nat.one_pos (.slice (some ⟨w2.heap.size, 0, none⟩) N N) N _ rfl (HO3.out.alloc _) (some ⟨w3.heap.size, 0, none⟩) 2 2 [.string ⟨#[]⟩, .string ⟨#[]⟩] rfl rfl no_none HN5.out HO2.out M1.out M2.out M3.out ?_; refine Stop.of ?_)
    refine Stop.go ?_
    intro a5 c5 w5 own5 g5
    have hb5 : Below wr.heap.size wr w5 := chain HB2.out (HLA.out.grown g5 M3.out (fun q hq => (HO3.out.lt q hq).1))
    rcases own5.2 with ⟨_, h0⟩ | ⟨g, cap, cur, e5, hbg, hgg, hrest⟩
    · omega
    cases e5
    have hcw : ∀ (j : Nat) (x : ByteArray), (L ++ [(⟨#[]⟩ : ByteArray), ⟨#[]⟩])[j]? = some x → w5.cell? ⟨g, j, none⟩ = some (.string x) := by
      intro j x hx
      have hj : j < (L ++ [(⟨#[]⟩ : ByteArray), ⟨#[]⟩]).length := (List.getElem?_eq_some_iff.1 hx).1
      rw [List.length_append] at hj
      have h1 := World.ownsRow.cellAt own5 j (by have := HN.out; simp at hj; omega)
      rw [h1, show L.map Value.string ++ [Value.string ⟨#[]⟩, .string ⟨#[]⟩] = (L ++ [(⟨#[]⟩ : ByteArray), ⟨#[]⟩]).map Value.string by simp, List.getElem?_map, hx]; rfl
    have hlen2 : 2 < (L ++ [(⟨#[]⟩ : ByteArray), ⟨#[]⟩]).length := by have := HN.out; simp; omega
    have hwz : ∀ j : Nat, (ws[j]?.getD []).length ≤ 65536 := by
      intro j
      rcases h : ws[j]? with _ | x
      · simp
      · have := HW1.out.2.1 x (List.mem_of_getElem? h); have := HC1L.out; simp only [Option.getD_some]; omega
    obtain ⟨Y0, hY0⟩ : ∃ y, (L ++ [(⟨#[]⟩ : ByteArray), ⟨#[]⟩])[0]? = some y := ⟨_, List.getElem?_eq_getElem (by omega)⟩
    obtain ⟨Y1, hY1⟩ : ∃ y, (L ++ [(⟨#[]⟩ : ByteArray), ⟨#[]⟩])[1]? = some y := ⟨_, List.getElem?_eq_getElem (by omega)⟩
    obtain ⟨Y2, hY2⟩ : ∃ y, (L ++ [(⟨#[]⟩ : ByteArray), ⟨#[]⟩])[2]? = some y := ⟨_, List.getElem?_eq_getElem (by omega)⟩
    have e0 := HWE.out 0
    have e1 := HWE.out 1
    have e2 := HWE.out 2
    rw [hY0, Option.getD_some] at e0
    rw [hY1, Option.getD_some] at e1
    rw [hY2, Option.getD_some] at e2
    have z0 : Y0.size ≤ 65536 := by have := hwz 0; rw [e0] at this; rw [Lib.size_eq]; exact this
    have z1 : Y1.size ≤ 65536 := by have := hwz 1; rw [e1] at this; rw [Lib.size_eq]; exact this
    have z2 : Y2.size ≤ 65536 := by have := hwz 2; rw [e2] at this; rw [Lib.size_eq]; exact this
    have HA0 := hid (fun (X : World) (hX : Below wr.heap.size wr X) => show Calls Tryd.prog 17 #[.string Y0] X fun e w' => ∃ ev, e = .returned (.tuple #[.int .i64 lo, ev]) ∧ Below X.heap.size X w' from by
      have h := atoi_c X (HX.out.below (chain HB.out hX)) Y0 (by omega)
      rw [← e0, ← HLO.out] at h; exact h)
    have HA1 := hid (fun (X : World) (hX : Below wr.heap.size wr X) => show Calls Tryd.prog 17 #[.string Y1] X fun e w' => ∃ ev, e = .returned (.tuple #[.int .i64 hi, ev]) ∧ Below X.heap.size X w' from by
      have h := atoi_c X (HX.out.below (chain HB.out hX)) Y1 (by omega)
      rw [← e1, ← HHI.out] at h; exact h)
    have HW2D := hid (show W2 = Y2.data.toList from by rw [HW2.out, e2])
    have c0 := hcw 0 Y0 hY0
    have c1' := hcw 1 Y1 hY1
    have c2' := hcw 2 Y2 hY2
    have hg5 : g < w5.heap.size := (Array.getElem?_eq_some_iff.1 hgg).1
    obtain ⟨w6, hw6⟩ : ∃ w6, w6 = w5.alloc (.cells #[.slice none 0 0, .int .i64 0, .int .i64 0] 36) := ⟨_, rfl⟩
    obtain ⟨xb, hxb⟩ : ∃ xb, xb = w5.heap.size := ⟨_, rfl⟩
    have hb56 : Below w5.heap.size w5 w6 := by rw [hw6]; exact (Below.refl _ _).alloc (Nat.le_refl _) _
    have hx6 : CBox w6 xb (.slice none 0 0) 0 0 := by rw [hw6, hxb]; exact CBox.made w5 _ 0 0
    have hgx : g ≠ xb := by rw [hxb]; omega
    have HCW := hid (fun (X : World) (hX : Keep (fun q => q ≠ xb) w6 X) => show X.cell? ⟨g, 0, none⟩ = some (.string Y0) ∧ X.cell? ⟨g, 1, none⟩ = some (.string Y1) ∧ X.cell? ⟨g, 2, none⟩ = some (.string Y2) from
      ⟨hX.cell ((hb56.cell (p := ⟨g, 0, none⟩) hg5).trans c0) hgx, hX.cell ((hb56.cell (p := ⟨g, 1, none⟩) hg5).trans c1') hgx, hX.cell ((hb56.cell (p := ⟨g, 2, none⟩) hg5).trans c2') hgx⟩)
    have HB6 := hid (chain hb5 hb56)
    have HX6 := hid hx6
    have HXO := hid (show wr.heap.size ≤ xb by rw [hxb]; exact hb5.size)
    have HW6 := hid (And.intro hw6 hxb)
    obtain ⟨N5, hN5⟩ : ∃ N5, N5 = N + 2 := ⟨_, rfl⟩
    rw [← hN5]
    have i0 : (0 : Int) < (N5 : Int) := by omega
    have i1 : (1 : Int) < (N5 : Int) := by omega
    have i2 : (2 : Int) < (N5 : Int) := by omega
    obtain ⟨d0, d1, d2⟩ := HCW.out w6 (Keep.refl _ _)
    rw [hw6] at d0
    clear hb5 hgg hrest hbg own5 g5 hcw hlen2 hwz hY0 hY1 hY2 e0 e1 e2 c0 c1' c2' hg5 hw6 hxb hb56 hx6 hgx d1 d2
    go_wp2_with fail
    rw [← HW6.out.1, ← HW6.out.2]
    clear d0
    go_wp2_with (go_at_call 17; refine (HA0.out _ HB6.out).mono ?_; rintro e w7 ⟨ev, rfl, hb7⟩; refine Stop.of ?_)
    refine Stop.go ?_
    have hx7 := HX6.out.keep (hb7.block _ HX6.out.lt)
    have f1 := hx7.cell1
    have y1 := hx7.frozen 1
    obtain ⟨w8, hw8⟩ : ∃ w8, w8 = w7.setCell ⟨xb, 1, none⟩ (.int .i64 lo) := ⟨_, rfl⟩
    have hk8 : Keep (fun q => q ≠ xb) w7 w8 := by rw [hw8]; exact Keep.set w7 xb 1 _
    have hx8 : CBox w8 xb (.slice none 0 0) lo 0 := by rw [hw8]; exact hx7.set1 lo
    have hk68 : Keep (fun q => q ≠ xb) w6 w8 := (Keep.of_below hb7).trans hk8
    obtain ⟨d0, d1, d2⟩ := HCW.out w8 hk68
    have hb8 : Below wr.heap.size wr w8 := by rw [hw8]; exact below_set (chain HB6.out hb7) HXO.out 1 _
    have HB8 := hid hb8
    have HX8 := hid hx8
    have HK68 := hid hk68
    have HW8 := hid hw8
    rw [hw8] at d1
    clear hb7 hx7 hw8 hk8 hx8 hk68 d0 d2 hb8
    go_wp2_with fail
    rw [← HW8.out]
    clear d1 f1 y1
    go_wp2_with (go_at_call 17; refine (HA1.out _ HB8.out).mono ?_; rintro e w9 ⟨ev2, rfl, hb9⟩; refine Stop.of ?_)
    refine Stop.go ?_
    have hx9 := HX8.out.keep (hb9.block _ HX8.out.lt)
    have f2 := hx9.cell2
    have y2 := hx9.frozen 2
    obtain ⟨w4, hw4⟩ : ∃ w4, w4 = w9.setCell ⟨xb, 2, none⟩ (.int .i64 hi) := ⟨_, rfl⟩
    have hk4 : Keep (fun q => q ≠ xb) w9 w4 := by rw [hw4]; exact Keep.set w9 xb 2 _
    have hx4 : CBox w4 xb (.slice none 0 0) lo hi := by rw [hw4]; exact hx9.set2 hi
    have hk64 : Keep (fun q => q ≠ xb) w6 w4 := HK68.out.trans ((Keep.of_below hb9).trans hk4)
    have HC4 := hid (fun (X : World) (hX : Keep (fun q => q ≠ xb) w4 X) => HCW.out X (hk64.trans hX))
    obtain ⟨d0, d1, d2⟩ := HCW.out w4 hk64
    have hb4 : Below wr.heap.size wr w4 := by rw [hw4]; exact below_set (chain HB8.out hb9) HXO.out 2 _
    obtain ⟨wo, hwo⟩ : ∃ wo, wo = wr := ⟨_, rfl⟩
    subst hwo
    have HI0 := hid (InC.start (wo := wo) HXO.out hb4 hx4)
    have HB4 := hid hb4
    have HW4 := hid hw4
    rw [hw4] at d2
    clear hb9 hx9 hw4 hk4 hx4 hk64 d0 d1 hb4 HCW HK68
    have hm2 : Y2.size ≤ 65536 := z2
    obtain ⟨m2, hm2e⟩ : ∃ m, m = Y2.size := ⟨_, rfl⟩
    have HM2 := hid hm2e
    go_wp2
    clear d2 f2 y2
    go_loopw [51] (fun i wr => ∃ j : Nat, j ≤ Y2.size ∧ i = .int .i64 j ∧ InC wo w4 xb lo hi (rw2.take j) wr) (fun i _ => Y2.size - (intOf i).toNat)
    case atStart => exact ⟨0, Nat.zero_le _, rfl, by rw [List.take_zero, ← HW4.out]; exact HI0.out⟩
    case round =>
      obtain ⟨j, hj, rfl, hI⟩ := hrel
      by_cases hlt : j < Y2.size
      · have hYj : j < Y2.data.toList.length := by rw [← Lib.size_eq]; exact hlt
        have hrl : rw2.length = Y2.size := by rw [HRW.out, List.length_map, HW2D.out, Lib.size_eq]
        have htk : rw2.take (j + 1) = rw2.take j ++ [signR (Y2[j]'hlt)] := by
          have hj2 : j < rw2.length := by rw [hrl]; exact hlt
          rw [List.take_succ_eq_append_getElem hj2]
          congr 2
          have h1 : rw2[j]? = some (signR (Y2[j]'hlt)) := by
            rw [HRW.out, HW2D.out, List.getElem?_map, List.getElem?_eq_getElem hYj]; rfl
          rw [List.getElem?_eq_getElem hj2] at h1
          exact Option.some.inj h1
        have hjl : (rw2.take j).length = j := by rw [List.length_take, hrl]; omega
        have hsg : ((((Y2[j]'hlt).toNat : Int) = 43 ∧ (((Y2[j]'hlt).toNat : Int) == 43) = true) ∧ signR (Y2[j]'hlt) = 1) ∨ ((¬ ((Y2[j]'hlt).toNat : Int) = 43 ∧ (((Y2[j]'hlt).toNat : Int) == 43) = false) ∧ (((Y2[j]'hlt).toNat : Int) = 46 ∧ (((Y2[j]'hlt).toNat : Int) == 46) = true) ∧ signR (Y2[j]'hlt) = 0) ∨
            ((¬ ((Y2[j]'hlt).toNat : Int) = 43 ∧ (((Y2[j]'hlt).toNat : Int) == 43) = false) ∧ (¬ ((Y2[j]'hlt).toNat : Int) = 46 ∧ (((Y2[j]'hlt).toNat : Int) == 46) = false) ∧ (((Y2[j]'hlt).toNat : Int) = 45 ∧ (((Y2[j]'hlt).toNat : Int) == 45) = true) ∧ signR (Y2[j]'hlt) = -1) ∨
            ((¬ ((Y2[j]'hlt).toNat : Int) = 43 ∧ (((Y2[j]'hlt).toNat : Int) == 43) = false) ∧ (¬ ((Y2[j]'hlt).toNat : Int) = 46 ∧ (((Y2[j]'hlt).toNat : Int) == 46) = false) ∧ (¬ ((Y2[j]'hlt).toNat : Int) = 45 ∧ (((Y2[j]'hlt).toNat : Int) == 45) = false) ∧ signR (Y2[j]'hlt) = 2) := by
          have hu : ∀ m : UInt8, ((Y2[j]'hlt).toNat : Int) = (m.toNat : Int) ↔ (Y2[j]'hlt) = m := fun m => ⟨fun h => UInt8.toNat_inj.1 (by omega), fun h => by rw [h]⟩
          have h43 := hu 43
          have h46 := hu 46
          have h45 := hu 45
          rw [show ((43 : UInt8).toNat : Int) = 43 from rfl] at h43
          rw [show ((46 : UInt8).toNat : Int) = 46 from rfl] at h46
          rw [show ((45 : UInt8).toNat : Int) = 45 from rfl] at h45
          unfold signR
          by_cases p1 : (Y2[j]'hlt) = 43
          · exact .inl ⟨⟨h43.2 p1, by simp [h43.2 p1]⟩, by rw [if_pos p1]⟩
          · have n1 : ¬ ((Y2[j]'hlt).toNat : Int) = 43 := fun h => p1 (h43.1 h)
            by_cases p2 : (Y2[j]'hlt) = 46
            · exact .inr (.inl ⟨⟨n1, by simpa using n1⟩, ⟨h46.2 p2, by simp [h46.2 p2]⟩, by rw [if_neg p1, if_pos p2]⟩)
            · have n2 : ¬ ((Y2[j]'hlt).toNat : Int) = 46 := fun h => p2 (h46.1 h)
              by_cases p3 : (Y2[j]'hlt) = 45
              · exact .inr (.inr (.inl ⟨⟨n1, by simpa using n1⟩, ⟨n2, by simpa using n2⟩, ⟨h45.2 p3, by simp [h45.2 p3]⟩, by rw [if_neg p1, if_neg p2, if_pos p3]⟩))
              · have n3 : ¬ ((Y2[j]'hlt).toNat : Int) = 45 := fun h => p3 (h45.1 h)
                exact .inr (.inr (.inr ⟨⟨n1, by simpa using n1⟩, ⟨n2, by simpa using n2⟩, ⟨n3, by simpa using n3⟩, by rw [if_neg p1, if_neg p2, if_neg p3]⟩))
        obtain ⟨R, hR⟩ : ∃ R, R = signR (Y2[j]'hlt) := ⟨_, rfl⟩
        rw [← hR] at htk hsg
        have d2 := (HC4.out wr hI.2.2.2.1).2.2
        obtain ⟨V, hV⟩ : ∃ V, V = rw2.take j := ⟨_, rfl⟩
        rw [← hV] at hI htk hjl
        obtain ⟨a5, c5, g0, g1, g2, g4, g3, g5⟩ := hI.cur
        rw [hjl] at g0 g4 g5
        have HG := hid (And.intro g4 (And.intro g3 g5))
        have HTK := hid htk
        have HJL := hid hjl
        have HN6 := hid (one_news wr (.int .i64 R) 3)
        have M1' := hid (show j + 1 ≤ maxLen by unfold maxLen; omega)
        have M2' := hid (show (j + 1) * 8 ≤ 140737488355328 by omega)
        have M3' := hid (Nat.le_trans HG.out.2.1 (le_alloc wr (.cells #[.int .i64 R] 3)))
        clear g4 g3 g5 hV hR hI htk hjl hYj hrl g1 g2
        rcases hsg with ⟨⟨k1, k1'⟩, rfl⟩ | ⟨⟨k1, k1'⟩, ⟨k2, k2'⟩, rfl⟩ | ⟨⟨k1, k1'⟩, ⟨k2, k2'⟩, ⟨k3, k3'⟩, rfl⟩ | ⟨⟨k1, k1'⟩, ⟨k2, k2'⟩, ⟨k3, k3'⟩, rfl⟩
        all_goals
          go_wp2_with (at_builtin; refine wpList_app _ rfl (.tmp 66) (.tmp 68) 34 rfl w4.heap.size 3 (.int .i64 0) 1 8 Tryd.underlying34 info_int rfl Nat.one_pos (.slice a5 j c5) j _ rfl (HG.out.1.alloc _) (some ⟨wr.heap.size, 0, none⟩) 1 1 [.int .i64 _] rfl rfl no_none HN6.out (one_intB _) M1'.out M2'.out M3'.out ?_; refine Stop.of ?_)
          refine Stop.go ?_
          intro a7 c7 w7 own7 g7
          obtain ⟨⟨u7, hu7⟩, hf7, hI7⟩ := HG.out.2.2 _ a7 c7 (wr.alloc (.cells #[.int .i64 _] 3)) w7 ((Below.refl _ _).alloc (Nat.le_refl _) _) g7 own7
          have HI7 := hid hI7
          clear own7 g7 hI7
          go_wp2
          refine ⟨⟨j + 1, by omega, by go_num, ?_⟩, by simp [intOf]; omega⟩
          rw [HTK.out]; exact HI7.out
      · obtain rfl : j = Y2.size := by omega
        have hrl : rw2.length = Y2.size := by rw [HRW.out, List.length_map, HW2D.out, Lib.size_eq]
        have hall : rw2.take Y2.size = rw2 := List.take_of_length_le (by rw [hrl]; exact Nat.le_refl _)
        rw [hall] at hI
        obtain ⟨a5, c5, g0, g1, g2, g4, g3, _⟩ := hI.cur
        obtain ⟨m, hm⟩ : ∃ m, m = rw2.length := ⟨_, rfl⟩
        rw [← hm] at g0 g4
        have hmY : m ≤ 65536 := by rw [hm, hrl]; exact z2
        have hIb : Below wo.heap.size wo wr := hI.2.2.1
        obtain ⟨xs, ho, hg, he⟩ := HTO.out.below hIb
        rw [← HK.out] at ho
        have h1 : ElemI 3 wr w.heap.size (fun _ => True) (.slice a5 m c5) rw2 := ElemI.own' g4 rfl hm.symm (by unfold maxLen; omega) (fun _ _ => trivial)
        have HH := hid (And.intro he h1)
        have HO := hid ho
        have HMM := hid hm
        have HBI := hid (chain HB.out hIb)
        have HN5' := hid (news3B wr (.slice a5 m c5) (.int .i64 lo) (.int .i64 hi) 36)
        have HO2' := hid (show ∀ u ∈ [Value.slice a5 m c5, .int .i64 lo, .int .i64 hi], u.oneCell' = true from by intro u hu; simp at hu; rcases hu with rfl | rfl | rfl <;> rfl)
        have M1' := hid (show k + 1 ≤ maxLen by unfold maxLen; omega)
        have M2' := hid (show (k + 1) * 40 ≤ 140737488355328 by omega)
        have M3' := hid (Nat.le_trans HBI.out.size (le_alloc wr (.cells #[.slice a5 m c5, .int .i64 lo, .int .i64 hi] 36)))
        have HLA' := hid (HBI.out.alloc HBI.out.size (.cells #[.slice a5 m c5, .int .i64 lo, .int .i64 hi] 36))
        have hxlt : xb < wr.heap.size := World.block_lt_of_cell? _ ⟨xb, 0, none⟩ g0
        have HXL := hid hxlt
        have HG0 := hid (And.intro g0 (And.intro g1 g2))
        have HXO2 := hid (show w.heap.size ≤ xb from Nat.le_trans HB.out.size HXO.out)
        have HTO2 := hid (show ∀ q, (Value.slice va k vc).ownBlock = some q → q < wo.heap.size from fun q hq => by
          obtain ⟨xs0, ho0, _⟩ := HTO.out
          exact (ho0.lt q hq).2)
        have hRI : isInt lo ∧ isInt hi := ⟨by rw [HLO.out]; exact atV_isInt _, by rw [HHI.out]; exact atV_isInt _⟩
        have HRI := hid hRI
        clear hall hI hIb ho hg he h1 g4 g3 hxlt hm hrl hRI HC4 HI0
        go_wp2_with (at_builtin; refine wpList_app _ rfl (.tmp 72) (.tmp 74) 24 rfl w.heap.size 36 (.agg #[.slice none 0 0, .int .i64 0, .int .i64 0]) 3 40 Tryd.underlying24 info_cell rfl (by decide) (.slice va k vc) k xs rfl (HO.out.alloc _) (some ⟨wr.heap.size, 0, none⟩) 1 1 [.slice a5 m c5, .int .i64 lo, .int .i64 hi] rfl rfl no_none HN5'.out HO2'.out M1'.out M2'.out M3'.out ?_; refine Stop.of ?_)
        refine Stop.go ?_
        intro a8 c8 w8' own8 g8
        have hT8 : CelT w8' w.heap.size (fun _ => True) (.slice a8 (k + 1) c8) (acc ++ [⟨rw2, lo, hi⟩]) := CelT.snoc (f := ⟨rw2, lo, hi⟩) (u := .slice a5 m c5) (W := wr) (w1 := wr.alloc (.cells #[.slice a5 m c5, .int .i64 lo, .int .i64 hi] 36)) (v := .slice va k vc) (by rw [← HK.out]; exact HO.out) HH.out.1 HH.out.2 ((Below.refl _ wr).alloc (Nat.le_refl _) _) g8 (by rw [← HK.out]; exact own8) (fun _ _ => trivial)
        have hb8' : Below w.heap.size w w8' := HLA'.out.grown g8 M3'.out (fun q hq => (HO.out.lt q hq).1)
        have hel8 : ElemI 3 w8' w.heap.size (fun _ => True) (.slice a5 m c5) rw2 := elem_grownC HO.out HH.out.2 ((Below.refl _ wr).alloc (Nat.le_refl _) _) g8
        have hbx : w8'.heap[xb]? = wr.heap[xb]? := by
          refine (g8.block xb (Nat.lt_of_lt_of_le HXL.out (by simp)) ?_).trans (Below.heap_alloc _ _ _ HXL.out)
          intro e
          have h1 := HTO2.out xb e.symm
          have := HXO.out
          omega
        have f0 : w8'.cell? ⟨xb, 0, none⟩ = some (.slice a5 m c5) := (cell_blkB (W' := w8') HG0.out.1 hbx)
        have f1 : w8'.cell? ⟨xb, 1, none⟩ = some (.int .i64 lo) := (cell_blkB (W' := w8') HG0.out.2.1 hbx)
        have f2 : w8'.cell? ⟨xb, 2, none⟩ = some (.int .i64 hi) := (cell_blkB (W' := w8') HG0.out.2.2 hbx)
        have hxl8 : xb < w8'.heap.size := World.block_lt_of_cell? _ ⟨xb, 0, none⟩ f0
        obtain ⟨a9, c9, e9, hm9, hfr⟩ := hT8.reads
        have hl9 : (acc ++ [(⟨rw2, lo, hi⟩ : Cel)]).length = k + 1 := by rw [List.length_append, ← HK.out]; rfl
        rw [hl9] at e9 hm9
        cases e9
        have HV8 := hid (refWritten_bc w8' a8 (k + 1) c8 (acc ++ [⟨rw2, lo, hi⟩]) hl9 hm9 hfr)
        have HF := hid (show ∀ X, Below w8'.heap.size w8' X → X.cell? ⟨xb, 0, none⟩ = some (.slice a5 m c5) ∧ X.cell? ⟨xb, 1, none⟩ = some (.int .i64 lo) ∧ X.cell? ⟨xb, 2, none⟩ = some (.int .i64 hi) from fun X hX => ⟨(hX.cell (p := ⟨xb, 0, none⟩) hxl8).trans f0, (hX.cell (p := ⟨xb, 1, none⟩) hxl8).trans f1, (hX.cell (p := ⟨xb, 2, none⟩) hxl8).trans f2⟩)
        have HLN := hid (fun (hv : listB (acc ++ [(⟨rw2, lo, hi⟩ : Cel)]) = true) (X : World) (hX : Below w8'.heap.size w8' X) => show Calls Tryd.prog 23 #[.agg #[.slice a5 m c5, .int .i64 lo, .int .i64 hi]] X fun e w' => e = .returned (.string ⟨(lineC ⟨rw2, lo, hi⟩).toArray⟩) ∧ Below X.heap.size X w' from by
          have hc := (list_all hv).2 ⟨rw2, lo, hi⟩ (by simp)
          exact bline_c X ((HX.out.below (chain hb8' hX)).1) a5 m c5 rw2 lo hi HMM.out.symm (by rw [HMM.out]; exact hc.2.2.2) (hel8.ints.2.2.below hX) hc.1 HRI.out.1 HRI.out.2)
        obtain ⟨Z, hZ⟩ : ∃ Z : ByteArray, Z = ⟨(lineC ⟨rw2, lo, hi⟩).toArray⟩ := ⟨_, rfl⟩
        rw [← hZ] at HLN
        have HZ := hid (show Z.data.toList = lineC ⟨rw2, lo, hi⟩ by rw [hZ])
        have HT8 := hid hT8
        have HB8' := hid hb8'
        have HSTEP := hid (fun (h : listB (acc ++ [(⟨rw2, lo, hi⟩ : Cel)]) = true) => stepB_bound h)
        obtain ⟨vb, hvb⟩ : ∃ b, b = listB (acc ++ [(⟨rw2, lo, hi⟩ : Cel)]) := ⟨_, rfl⟩
        rw [← hvb] at HV8 HNO HYES HSTEP HLN
        have HERR := hid (fun h => show ∀ W, Below w8'.heap.size w8' W → ∃ v, Ending.returned (.tuple #[.slice none 0 0, .int .i64 (k : Int), .int .i64 2]) = .returned (.tuple #[v, .int .i64 (PT.2.1 : Nat), .int .i64 PT.2.2]) ∧ CelT W w.heap.size (fun _ => True) v PT.1 ∧ Below w.heap.size w W from fun W hW => ⟨.slice none 0 0, by rw [HNO.out h], by rw [HNO.out h]; exact CelT.nil _ _ _, chain HB8'.out hW⟩)
        clear own8 g8 hT8 hb8' hel8 hbx hfr hl9 hZ hvb f0 f1 f2 g0 g1 g2
        cases c3 with
        | false =>
          have HR := hid (HERR.out (by simp))
          go_wp2
          refine bodyPost_ret (v := .tuple #[.slice none 0 0, .int .i64 (k : Int), .int .i64 2]) (by simp [results, Tryd.results7, go_sem]) rfl ?_
          exact HR.out _ (Below.refl _ _)
        | true =>
          cases vb with
          | false =>
            have HR := hid (HERR.out (by simp))
            go_wp2_with (go_at_call 22; refine HV8.out.mono ?_; rintro e w9' ⟨rfl, hb9'⟩)
            refine bodyPost_ret (v := .tuple #[.slice none 0 0, .int .i64 (k : Int), .int .i64 2]) (by simp [results, Tryd.results7, go_sem]) rfl ?_
            exact HR.out _ hb9'
          | true =>
            go_wp2_with (go_at_call 22; refine HV8.out.mono ?_; rintro e w9' ⟨rfl, hb9'⟩; refine Stop.of ?_)
            refine Stop.go ?_
            obtain ⟨f0, f1, f2⟩ := HF.out w9' hb9'
            have HLN2 := hid (HLN.out (by first | rfl | trivial))
            by_cases hle : Z.data.toList = c1
            · have hy := HYES.out ⟨trivial, trivial, by rw [← HZ.out]; exact hle⟩
              have hq : Z.toList = T1.toList := by rw [Lib.toList_data, Lib.toList_data, hle, HT1.out]
              have HY1 := hid hy.1
              have HT3 := hid (Nat.lt_of_le_of_lt (Nat.le_of_eq HT2.out.2) hy.2)
              have HB9 := hid hb9'
              clear hy hle
              go_wp2_with (go_at_call 23; refine (HLN2.out _ HB9.out).mono ?_; rintro e w10 ⟨rfl, hb10⟩)
              refine ⟨⟨acc ++ [⟨rw2, lo, hi⟩], T2, f - 1, rfl, ?_, HSTEP.out (by first | rfl | trivial), HT8.out.below (chain HB9.out hb10), ?_, ?_, hid ?_, chain HB8'.out (chain HB9.out hb10)⟩, ?_⟩
              · rw [List.length_append, ← HK.out]; rfl
              · have := HT3.out; omega
              · have := HT3.out; omega
              · rw [HT2.out.1]; exact HY1.out
              · exact HT3.out
            · have HR := hid (HERR.out (by rintro ⟨_, _, h⟩; exact hle (by rw [HZ.out]; exact h)))
              have hq : ¬ Z.toList = T1.toList := by rw [Lib.toList_data, Lib.toList_data, HT1.out]; exact hle
              have hq2 : (Z.toList == T1.toList) = false := by simpa using hq
              have hq3 : (Z.toList != T1.toList) = true := by simpa using hq
              have HB9 := hid hb9'
              clear hle
              go_wp2_with (go_at_call 23; refine (HLN2.out _ HB9.out).mono ?_; rintro e w10 ⟨rfl, hb10⟩)
              refine bodyPost_ret (v := .tuple #[.slice none 0 0, .int .i64 (k : Int), .int .i64 2]) (by simp [results, Tryd.results7, go_sem]) rfl ?_
              exact HR.out _ (chain HB9.out hb10)
end Go.Proofs.YtofcpmfbeobgiaaDoor

namespace Go.Proofs.YtofcpmfbeobgiaaDoor
open Go.RowKit
set_option linter.unusedVariables false

def roundEndS {α : Type} (S : Nat → Prop) (I : List α → World → Prop) (Ix : Code → List α → World → Prop) (xs : List α) (W : World) : Exit → Act → World → Prop
  | .normal, _, W' => W.heap.size ≤ W'.heap.size ∧ (∀ k, S k → W'.heap[k]? = W.heap[k]?) ∧ I xs W'
  | .ret, _, W' => W.heap.size ≤ W'.heap.size ∧ (∀ k, S k → W'.heap[k]? = W.heap[k]?) ∧ Ix .ret xs W'
  | .exit id, _, W' => W.heap.size ≤ W'.heap.size ∧ (∀ k, S k → W'.heap[k]? = W.heap[k]?) ∧ Ix (.exit id) xs W'
  | .goto t, _, W' => W.heap.size ≤ W'.heap.size ∧ (∀ k, S k → W'.heap[k]? = W.heap[k]?) ∧ Ix (.goto t) xs W'
  | .panic _, _, _ => False
  | .outgrown, _, _ => False

end Go.Proofs.YtofcpmfbeobgiaaDoor

namespace Go.Proofs.YtofcpmfbeobgiaaDoor
open Go.RowKit
set_option linter.unusedVariables false

def IterT (P : Program) (g : Nat) (lb : Array Value) {α : Type} (V : Nat → (Nat → Prop) → α → Value → World → Prop) (xs : List α) (fp T : Nat → Prop) (w0 : World) : Prop :=
  ∀ (l : Nat) (J Jx : (Nat → Prop) → List α → World → Prop) (W : World), Below w0.heap.size w0 W →
    (∀ S S' s A B, Jx S s A → (∀ k, S k → S' k) → (∀ k, S' k → S k ∨ A.heap.size ≤ k) → Keep (fun k => ¬ S' k ∧ ¬ T k) A B → Jx S' s B) →
    (∀ S S' s A B, J S s A → (∀ k, S k → S' k) → (∀ k, S' k → S k ∨ A.heap.size ≤ k) → Keep (fun k => ¬ S' k ∧ ¬ T k) A B → J S' s B) →
    (∀ S pre x v W1, pre ++ [x] <+: xs → (∀ k, S k → W.heap.size ≤ k ∧ k < W1.heap.size) → W.heap.size ≤ W1.heap.size → J S pre W1 → V W.heap.size S x v W1 →
      YieldAt Fence.wide 0 P l #[v] W1 fun e W' =>
        (W1.heap.size ≤ W'.heap.size ∧ (∀ k, fp k ∨ S k → W'.heap[k]? = W1.heap[k]?)) ∧ ((e = .returned (.bool true) ∧ J S (pre ++ [x]) W') ∨ (e = .returned (.bool false) ∧ Jx S (pre ++ [x]) W'))) →
    J (fun _ => False) [] W →
    CallsIn Fence.wide 0 P g (#[.func (.yield l) #[] #[]] ++ lb) W fun e W' => (∃ v, e = .returned v) ∧ ((∃ S, (∀ k, S k → W.heap.size ≤ k ∧ k < W'.heap.size) ∧ J S xs W') ∨ (∃ S pre, pre <+: xs ∧ Jx S pre W'))

theorem range_t {P : Program} {g : Operand} {p : Tmp} {assign body : Code} {Q : Exit → Act → World → Prop} {a : Act} {w : World}
    {gf : Nat} {lb : Array Value} (hg : a.eval g = .func (.func gf) #[] lb) (eg : ∀ args w, (callFunc gf args).run P w = .ok (.enter gf args) w)
    {α : Type} {V : Nat → (Nat → Prop) → α → Value → World → Prop} {xs : List α} {fp T : Nat → Prop} {w0 : World} (hseq : IterT P gf lb V xs fp T w0) (hb0 : Below w0.heap.size w0 w) (hfp : ∀ k, fp k → k < w.heap.size) (hTl : ∀ k, T k → k < w.heap.size)
    (I : (Nat → Prop) → List α → World → Prop) (Ix : (Nat → Prop) → Code → List α → World → Prop)
    (hI : ∀ S S' s A B, I S s A → (∀ k, S k → S' k) → (∀ k, S' k → S k ∨ A.heap.size ≤ k) → (∀ k, S' k → w.heap.size + 2 ≤ k) → w.heap.size + 2 ≤ A.heap.size → Keep (fun k => k ≠ w.heap.size ∧ k ≠ w.heap.size + 1 ∧ ¬ S' k ∧ ¬ T k) A B → I S' s B)
    (hIx : ∀ S S' c s A B, Ix S c s A → (∀ k, S k → S' k) → (∀ k, S' k → S k ∨ A.heap.size ≤ k) → (∀ k, S' k → w.heap.size + 2 ≤ k) → w.heap.size + 2 ≤ A.heap.size → Keep (fun k => k ≠ w.heap.size ∧ k ≠ w.heap.size + 1 ∧ ¬ S' k ∧ ¬ T k) A B → Ix S' c s B)
    (hV : ∀ S x v A B, V (w.heap.size + 2) S x v A → Keep (fun k => k ≠ w.heap.size ∧ k ≠ w.heap.size + 1) A B → V (w.heap.size + 2) S x v B)
    (h0 : ∀ W, Keep (fun k => k < w.heap.size) w W → w.heap.size + 2 ≤ W.heap.size → I (fun _ => False) [] W) (Ax : Value → Act → World → Prop)
    (hAx : ∀ v a' A B, Ax v a' A → Keep (fun k => k ≠ w.heap.size ∧ k ≠ w.heap.size + 1) A B → Ax v a' B)
    (hassign : ∀ (l : Nat) (S : Nat → Prop) (x : α) (v : Value) (W : World) (K : Act → World → Prop), w.heap.size + 2 ≤ W.heap.size → V (w.heap.size + 2) S x v W → (∀ a' W', Below W.heap.size W W' → Ax v a' W' → K a' W') →
      assign.wpIn (Fence.wide.inRound l) 0 P (Exit.then K (fun _ _ _ => False)) { tmps := a.tmps.setIfInBounds p v, defers := [] } W)
    (hbody : ∀ (l : Nat) (S : Nat → Prop) (pre : List α) (x : α) (v : Value) (a' : Act) (W : World), pre ++ [x] <+: xs → (∀ k, S k → w.heap.size + 2 ≤ k ∧ k < W.heap.size) → I S pre W → V (w.heap.size + 2) S x v W → Ax v a' W → w.heap.size + 2 ≤ W.heap.size →
      (∃ o, W.heap[w.heap.size]? = some o ∧ o.isCells = false) → (∃ o, W.heap[w.heap.size + 1]? = some o ∧ o.isCells = false) →
      body.wpIn (Fence.wide.inRound l) 0 P (roundEndS (fun k => fp k ∨ k = w.heap.size ∨ k = w.heap.size + 1 ∨ S k) (I S) (Ix S) (pre ++ [x]) W) a' W)
    (hdone : ∀ (S : Nat → Prop) (W : World), w.heap.size + 2 ≤ W.heap.size → (∀ k, S k → w.heap.size + 2 ≤ k ∧ k < W.heap.size) → I S xs W → W.heap[w.heap.size]? = some (.deferred (some [])) → Q .normal { a with defers := { target := .collected w.heap.size, args := #[] } :: a.defers } W)
    (hstop : ∀ (S : Nat → Prop) (c : Code) (pre : List α) (W : World), pre <+: xs → (∀ k, S k → w.heap.size + 2 ≤ k) → Ix S c pre W → W.heap[w.heap.size]? = some (.deferred (some [])) → c.wpIn Fence.wide 0 P Q { a with defers := { target := .collected w.heap.size, args := #[] } :: a.defers } W) :
    (Code.rangeFunc g #[p] assign body).wpIn Fence.wide 0 P Q a w := by
  refine wpIn_rangeFunc ?_
  intro fn hfn
  obtain ⟨rec, hrec⟩ : ∃ rec : LoopState → Option Code → Loop, rec = fun st pe => { state := st, pending := pe, fn, tmps := a.tmps, params := #[p], assign, body, defers := w.heap.size } := ⟨_, rfl⟩
  obtain ⟨W1, hW1⟩ : ∃ W1, (w.alloc (.deferred (some []))).alloc (.loop (rec .ready none)) = W1 := ⟨_, rfl⟩
  have hsz1 : W1.heap.size = w.heap.size + 2 := by rw [← hW1]; simp
  have hL1 : W1.heap[w.heap.size + 1]? = some (.loop (rec .ready none)) := by
    rw [← hW1]; have := World.alloc_heap_new (w.alloc (.deferred (some []))) (.loop (rec .ready none)); rwa [World.size_alloc] at this
  have hK1 : W1.heap[w.heap.size]? = some (.deferred (some [])) := by
    rw [← hW1]; exact (Below.heap_alloc _ _ _ (by simp)).trans (World.alloc_heap_new w _)
  have hbw : Below w.heap.size w W1 := by rw [← hW1]; exact ((Below.refl _ w).alloc (Nat.le_refl _) _).alloc (by simp) _
  refine ⟨w.heap.size + 1, [{ target := .collected w.heap.size, args := #[] }], W1, { target := .fn (.func gf) lb, args := #[.func (.yield (w.heap.size + 1)) #[] #[]] }, W1, gf,
    #[.func (.yield (w.heap.size + 1)) #[] #[]] ++ lb, W1, ?_, ?_, ?_, ?_, fun h => by simp [Fence.wide] at h, ?_⟩
  · rw [← hW1, hrec]; exact run_enterLoop_outer _ _ _ _ _
  · simp only [resolve, hg]
    simp [go_sem]
  · intro f' hf'; exact trivial
  · simp [invoke, go_sem, eg]
  · refine (hseq (w.heap.size + 1)
      (fun S pre W => (I S pre W ∧ w.heap.size + 2 ≤ W.heap.size ∧ ∀ k, S k → w.heap.size + 2 ≤ k) ∧ W.heap[w.heap.size + 1]? = some (.loop (rec .ready none)) ∧ W.heap[w.heap.size]? = some (.deferred (some [])))
      (fun S pre W => ∃ c, (Ix S c pre W ∧ w.heap.size + 2 ≤ W.heap.size ∧ ∀ k, S k → w.heap.size + 2 ≤ k) ∧ W.heap[w.heap.size + 1]? = some (.loop (rec .done (some c))) ∧ W.heap[w.heap.size]? = some (.deferred (some [])))
      W1 (chain hb0 hbw) ?_ ?_ ?_ ?_).mono ?_
    · rintro S S' s A B ⟨c, ⟨hi, hsA, hSl⟩, hl, hk⟩ hSS hSn hAB
      have hS' : ∀ k, S' k → w.heap.size + 2 ≤ k := fun k h => by
        rcases hSn k h with h1 | h1
        · exact hSl k h1
        · omega
      exact ⟨c, ⟨hIx S S' c s A B hi hSS hSn hS' hsA (hAB.mono fun k hk => hk.2.2), Nat.le_trans hsA hAB.size, hS'⟩,
        (hAB.block _ (Array.getElem?_eq_some_iff.1 hl).1 ⟨fun h => by have := hS' _ h; omega, fun h => by have := hTl _ h; omega⟩).trans hl, (hAB.block _ (Array.getElem?_eq_some_iff.1 hk).1 ⟨fun h => by have := hS' _ h; omega, fun h => by have := hTl _ h; omega⟩).trans hk⟩
    · rintro S S' s A B ⟨⟨hi, hsA, hSl⟩, hl, hk⟩ hSS hSn hAB
      have hS' : ∀ k, S' k → w.heap.size + 2 ≤ k := fun k h => by
        rcases hSn k h with h1 | h1
        · exact hSl k h1
        · omega
      exact ⟨⟨hI S S' s A B hi hSS hSn hS' hsA (hAB.mono fun k hk => hk.2.2), Nat.le_trans hsA hAB.size, hS'⟩,
        (hAB.block _ (Array.getElem?_eq_some_iff.1 hl).1 ⟨fun h => by have := hS' _ h; omega, fun h => by have := hTl _ h; omega⟩).trans hl, (hAB.block _ (Array.getElem?_eq_some_iff.1 hk).1 ⟨fun h => by have := hS' _ h; omega, fun h => by have := hTl _ h; omega⟩).trans hk⟩
    · rintro S pre x v W hpre hSb hsz ⟨⟨hi, hsW, hSl⟩, hl, hk⟩ hv
      rw [hsz1] at hv hSb
      have hlt : w.heap.size + 1 < W.heap.size := (Array.getElem?_eq_some_iff.1 hl).1
      have hy := run_yield (P := P) (args := #[v]) hl (by rw [hrec]; simp)
      rw [hrec] at hy
      have hy' : (Instr.yield (w.heap.size + 1) #[v]).run P W = .ok (.round (w.heap.size + 1) fn (a.tmps.setIfInBounds p v) assign body) W := by
        simpa using hy
      refine ⟨fn, _, assign, body, hy', roundIn_of_wpIn hfn ?_⟩
      refine hassign _ S x v W _ hsW hv ?_
      intro a' W' hbW' hax
      have hlW' : W'.heap[w.heap.size + 1]? = some (.loop (rec .ready none)) := (hbW'.block _ hlt).trans hl
      have hkW' : W'.heap[w.heap.size]? = some (.deferred (some [])) := (hbW'.block _ (by omega)).trans hk
      have hltW' : w.heap.size + 1 < W'.heap.size := by have := hbW'.size; omega
      refine ⟨_, run_beginRound hlW' (by rw [hrec]), ?_⟩
      have hl2 : (W'.putObj (w.heap.size + 1) (.loop { rec .ready none with state := .busy })).heap[w.heap.size + 1]? = some (.loop { rec .ready none with state := .busy }) := World.putObj_heap_same hltW'
      have hkp := Keep.put W' (w.heap.size + 1) (.loop { rec .ready none with state := .busy })
      have hkp2 : Keep (fun k => k ≠ w.heap.size ∧ k ≠ w.heap.size + 1) W' _ := hkp.mono fun k hk => hk.2
      have hIW' := hI S S pre _ _ (hI S S pre _ _ hi (fun _ h => h) (fun _ h => .inl h) hSl hsW (Keep.of_below hbW')) (fun _ h => h) (fun _ h => .inl h) hSl (Nat.le_trans hsW hbW'.size) (hkp2.mono fun k hk => ⟨hk.1, hk.2.1⟩)
      refine wpIn_mono (hbody _ S pre x v a' _ hpre (fun k h => ⟨hSl k h, by have := (hSb k h).2; exact Nat.lt_of_lt_of_le this (Nat.le_trans hbW'.size hkp.size)⟩) hIW' (hV S x v _ _ (hV S x v _ _ hv (Keep.of_below hbW')) hkp2) (hAx _ _ _ _ hax hkp2) (Nat.le_trans (Nat.le_trans hsW hbW'.size) hkp.size) ⟨_, (World.putObj_heap_other (by omega)).trans hkW', rfl⟩ ⟨_, hl2, rfl⟩) ?_
      have fin : ∀ (jump : Option Code) (W3 : World), (∀ k, (fp k ∨ k = w.heap.size ∨ k = w.heap.size + 1 ∨ S k) → W3.heap[k]? = (W'.putObj (w.heap.size + 1) (.loop { rec .ready none with state := .busy })).heap[k]?) →
          (Instr.endRound (w.heap.size + 1) jump).run P W3 = .ok (.bool jump.isNone) (W3.putObj (w.heap.size + 1) (.loop (rec (if jump.isNone then .ready else .done) jump))) ∧
          W3.heap[w.heap.size + 1]? = some (.loop { rec .ready none with state := .busy }) ∧
          (W3.putObj (w.heap.size + 1) (.loop (rec (if jump.isNone then .ready else .done) jump))).heap[w.heap.size + 1]? = some (.loop (rec (if jump.isNone then .ready else .done) jump)) ∧
          (W3.putObj (w.heap.size + 1) (.loop (rec (if jump.isNone then .ready else .done) jump))).heap[w.heap.size]? = some (.deferred (some [])) := fun jump W3 hk3 => by
        have hl3 := (hk3 (w.heap.size + 1) (by simp)).trans hl2
        have := run_endRound (P := P) jump hl3
        rw [hrec] at this ⊢
        refine ⟨this, by rw [hrec] at hl3; exact hl3, World.putObj_heap_same (Array.getElem?_eq_some_iff.1 hl3).1, (World.putObj_heap_other (by omega)).trans ((hk3 w.heap.size (by simp)).trans ((World.putObj_heap_other (by omega)).trans hkW'))⟩
      rintro e a3 W3 hp
      have keepP : ∀ (o : Obj), Keep (fun k => k ≠ w.heap.size ∧ k ≠ w.heap.size + 1) W3 (W3.putObj (w.heap.size + 1) o) := fun o => (Keep.put W3 (w.heap.size + 1) o).mono fun k hk => hk.2
      have both : ∀ (o : Obj), W'.heap.size ≤ W3.heap.size → (∀ k, (fp k ∨ k = w.heap.size ∨ k = w.heap.size + 1 ∨ S k) → W3.heap[k]? = (W'.putObj (w.heap.size + 1) (.loop { rec .ready none with state := .busy })).heap[k]?) →
          W.heap.size ≤ (W3.putObj (w.heap.size + 1) o).heap.size ∧ ∀ k, fp k ∨ S k → (W3.putObj (w.heap.size + 1) o).heap[k]? = W.heap[k]? := fun o hs3 hk3 => by
        refine ⟨Nat.le_trans (Nat.le_trans hbW'.size hs3) (keepP o).size, fun k hk => ?_⟩
        have hne : k ≠ w.heap.size + 1 := by
          rcases hk with hk | hk
          · have := hfp k hk; omega
          · have := hSl k hk; omega
        have hltk : k < W.heap.size := by
          rcases hk with hk | hk
          · have := hfp k hk; omega
          · exact (hSb k hk).2
        exact (World.putObj_heap_other hne).trans ((hk3 k (by rcases hk with hk | hk <;> simp [hk])).trans ((World.putObj_heap_other hne).trans (hbW'.block k hltk)))
      cases e with
      | normal =>
        obtain ⟨hs3, hk3, hi3⟩ := hp
        obtain ⟨hr, hl3, hl4, hk4⟩ := fin none W3 hk3
        have hs3' : W.heap.size ≤ W3.heap.size := Nat.le_trans (Nat.le_trans hbW'.size hkp.size) hs3
        exact ⟨_, _, hr, both _ (Nat.le_trans hkp.size hs3) hk3, .inl ⟨rfl, ⟨hI S S _ _ _ hi3 (fun _ h => h) (fun _ h => .inl h) hSl (Nat.le_trans hsW hs3') ((keepP _).mono fun k hk => ⟨hk.1, hk.2.1⟩), Nat.le_trans (Nat.le_trans hsW hs3') (keepP _).size, hSl⟩, hl4, hk4⟩⟩
      | ret =>
        obtain ⟨hs3, hk3, hi3⟩ := hp
        obtain ⟨hr, hl3, hl4, hk4⟩ := fin (some .ret) W3 hk3
        have hs3' : W.heap.size ≤ W3.heap.size := Nat.le_trans (Nat.le_trans hbW'.size hkp.size) hs3
        exact ⟨_, _, hr, both _ (Nat.le_trans hkp.size hs3) hk3, .inr ⟨rfl, .ret, ⟨hIx S S _ _ _ _ hi3 (fun _ h => h) (fun _ h => .inl h) hSl (Nat.le_trans hsW hs3') ((keepP _).mono fun k hk => ⟨hk.1, hk.2.1⟩), Nat.le_trans (Nat.le_trans hsW hs3') (keepP _).size, hSl⟩, hl4, hk4⟩⟩
      | exit id =>
        obtain ⟨hs3, hk3, hi3⟩ := hp
        obtain ⟨hr, hl3, hl4, hk4⟩ := fin (some (.exit id)) W3 hk3
        have hs3' : W.heap.size ≤ W3.heap.size := Nat.le_trans (Nat.le_trans hbW'.size hkp.size) hs3
        exact ⟨_, _, hr, both _ (Nat.le_trans hkp.size hs3) hk3, .inr ⟨rfl, .exit id, ⟨hIx S S _ _ _ _ hi3 (fun _ h => h) (fun _ h => .inl h) hSl (Nat.le_trans hsW hs3') ((keepP _).mono fun k hk => ⟨hk.1, hk.2.1⟩), Nat.le_trans (Nat.le_trans hsW hs3') (keepP _).size, hSl⟩, hl4, hk4⟩⟩
      | goto t =>
        obtain ⟨hs3, hk3, hi3⟩ := hp
        obtain ⟨hr, hl3, hl4, hk4⟩ := fin (some (.goto t)) W3 hk3
        have hs3' : W.heap.size ≤ W3.heap.size := Nat.le_trans (Nat.le_trans hbW'.size hkp.size) hs3
        exact ⟨_, _, hr, both _ (Nat.le_trans hkp.size hs3) hk3, .inr ⟨rfl, .goto t, ⟨hIx S S _ _ _ _ hi3 (fun _ h => h) (fun _ h => .inl h) hSl (Nat.le_trans hsW hs3') ((keepP _).mono fun k hk => ⟨hk.1, hk.2.1⟩), Nat.le_trans (Nat.le_trans hsW hs3') (keepP _).size, hSl⟩, hl4, hk4⟩⟩
      | panic ch => exact hp.elim
      | outgrown => exact hp.elim
    · exact ⟨⟨h0 W1 (Keep.of_below hbw |>.mono fun k _ => trivial) (by omega), by omega, fun k h => h.elim⟩, hL1, hK1⟩
    · rintro e W2 ⟨⟨v, rfl⟩, (⟨S, hSw, ⟨hi, hs2, hSl⟩, hl, hk⟩ | ⟨S, pre, hSp, c, ⟨hi, hs2, hSl⟩, hl, hk⟩)⟩
      · refine ⟨none, _, by have := run_endLoop (P := P) hl (by rw [hrec]; simp); rw [hrec] at this; exact this, hdone S _ (Nat.le_trans hs2 (Keep.put W2 _ _).size) (fun k h => ⟨hSl k h, Nat.lt_of_lt_of_le (hSw k h).2 (Keep.put W2 _ _).size⟩) (hI S S _ _ _ hi (fun _ h => h) (fun _ h => .inl h) hSl hs2 ((Keep.put W2 _ _).mono fun k hk => hk.2.1)) ((World.putObj_heap_other (by omega)).trans hk)⟩
      · refine ⟨some c, _, by have := run_endLoop (P := P) hl (by rw [hrec]; simp); rw [hrec] at this; exact this, hstop S c pre _ hSp hSl (hIx S S _ _ _ _ hi (fun _ h => h) (fun _ h => .inl h) hSl hs2 ((Keep.put W2 _ _).mono fun k hk => hk.2.1)) ((World.putObj_heap_other (by omega)).trans hk)⟩
end Go.Proofs.YtofcpmfbeobgiaaDoor

namespace Go.Proofs.YtofcpmfbeobgiaaDoor
open Go.RowKit
set_option linter.unusedVariables false

section
variable {P : Program} {ops : Array Oper} {Q : Exit → Act → World → Prop} {md : Region.Mode} {S : World → Prop}

theorem wpOp_inWide (n : Nat) {i : Nat} {K : Act → World → Prop} {a : Act} {w : World} (hq : ¬ LetsOut Q) (h : wpOp P ops Q i K a w) : wpOpIn Fence.wide n P ops Q i K a w := by
  unfold wpOp at h
  unfold wpOpIn
  cases ho : ops[i]? with
  | none => simpa [ho] using h
  | some o =>
    simp only [ho] at h ⊢
    split
    · rename_i hw
      simp only [hw, if_true] at h
      have h := h.resolve_right (fun x => hq x.2)
      refine ⟨fun f _ => trivial, ?_⟩
      rw [show Fence.wide.round = none from rfl, Oper.semAt_none]
      unfold Oper.wp at h
      generalize (execOp a.eval o).run P w = r at *
      cases r with
      | ok x w' =>
        cases x <;> simp only [Oper.upon, Oper.uponIn] at h ⊢ <;> first
          | exact h
          | exact ⟨fun h => by simp [Fence.wide] at h, callsIn_wide.2 h⟩
          | (refine ⟨fun h => by simp [Fence.wide] at h, fun c cs _ => ?_⟩
             obtain ⟨v, w'', hr, hs⟩ := h c cs
             exact ⟨v, w'', hr, (StepsIn.of_steps hs).mono fun m _ => fenced_wide P m⟩)
      | halt x w' => cases x <;> simp only [Oper.upon, Oper.uponIn] at h ⊢ <;> exact h
    · rename_i hw
      simp only [hw] at h
      exact ⟨fun f _ => trivial, h⟩
theorem AnyT.inWide {T : Nat → World → Prop} (n : Nat) (hq : ¬ LetsOut Q) : ∀ (fuel : Nat) (listed : Array Bool) (a : Act) (w : World),
    AnyT P md ops Q T fuel listed a w → wpAnyIn Fence.wide n P md ops Q fuel listed a w
  | 0, _, _, _, h => h
  | fuel + 1, _, _, _, h => ⟨h.1, fun i hi => wpOpIn_mono (fun a' w' h' => AnyT.inWide n hq fuel _ a' w' h'.2) (wpOp_inWide n hq (h.2 i hi))⟩
theorem wide_region (T : Nat → World → Prop) (n : Nat) {id : Nat} {a : Act} {w : World} (hm : P.follows .mixedOrders = true) (hq : ¬ LetsOut Q)
    (h : AnyT P .any ops Q T ops.size (Array.replicate ops.size false) a w.drew) : (Code.region id ops true).wpIn Fence.wide n P Q a w :=
  wpIn_region_any hm (AnyT.inWide n hq _ _ _ _ h)
end

theorem wide_regionK {P : Program} {ops : Array Oper} (T : Nat → World → Prop) (n : Nat) {id : Nat} {a : Act} {w : World} {K : Act → World → Prop} {Q : Exit → Act → World → Prop} (hm : P.follows .mixedOrders = true)
    (h : AnyT P .any ops (Exit.then K (fun _ _ _ => False)) T ops.size (Array.replicate ops.size false) a w.drew) : (Code.region id ops true).wpIn Fence.wide n P (Exit.then K Q) a w :=
  wpIn_mono (wide_region T n hm (fun ⟨_, _, h⟩ => h) h) (by intro e a w h; cases e <;> first | exact h | exact h.elim)

end Go.Proofs.YtofcpmfbeobgiaaDoor

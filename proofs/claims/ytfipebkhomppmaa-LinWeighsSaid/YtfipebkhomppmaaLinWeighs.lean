/- The statement LinWeighs: the walk. -/
import Derived.Test.YtfipebkhomppmaaLwAO
import Derived.Test.YtfipebkhomppmaaOpen
import Derived.Test.YtfipebkhomppmaaLift
namespace Go.Proofs.Ytfipebkhomppmaa
open Go.RowKit
set_option linter.unusedVariables false

/-- two lists of ints, as a slice of two -/
theorem rows_two2 {W : World} {a2 a3 : Option Addr} {n2 c2 n3 c3 : Nat} {h l : List Int} (hn2 : h.length = n2) (hm2 : n2 ≤ maxLen) (H2 : IntsAt W a2 h) (hn3 : l.length = n3) (hm3 : n3 ≤ maxLen) (H3 : IntsAt W a3 l) :
    RowsAt (W.alloc (.cells #[.slice a2 n2 c2, .slice a3 n3 c3] 31)) (some ⟨W.heap.size, 0, none⟩) [h, l] := by
  have hb : Below W.heap.size W (W.alloc (.cells #[.slice a2 n2 c2, .slice a3 n3 c3] 31)) := (Below.refl _ _).alloc (Nat.le_refl _) _
  intro j hj
  match j, hj with
  | 0, _ => exact ⟨_, 0, a2, n2, c2, rfl, by simp, by rw [World.cell?_alloc_at _ _ _ _ rfl]; rfl, hn2, hm2, H2.below hb⟩
  | 1, _ => exact ⟨_, 0, a3, n3, c3, rfl, by simp, by rw [World.cell?_alloc_at _ _ _ _ rfl]; rfl, hn3, hm3, H3.below hb⟩

set_option maxRecDepth 100000 in
set_option maxHeartbeats 4000000 in
theorem linWeighs_c (w : World) (a : Option Addr) (n cap : Nat) (M : Mask) (hn : M.length = n) (hm : n ≤ maxLen) (H : RowsAt w a M) (_ : ∀ y ∈ M, ∀ z ∈ y, Fits64 z) (p : Int) (_ : Fits64 p) (a2 : Option Addr) (n2 cap2 : Nat) (z : List Int) (hn2 : z.length = n2) (hm2 : n2 ≤ maxLen) (H2 : IntsAt w a2 z) (_ : ∀ y ∈ z, Fits64 y)
    (a3 : Option Addr) (n3 cap3 : Nat) (x : List Int) (hn3 : x.length = n3) (hm3 : n3 ≤ maxLen) (H3 : IntsAt w a3 x) (_ : ∀ y ∈ x, Fits64 y) :
    Calls Try.prog 9 #[.slice a n cap, .int .i64 p, .slice a2 n2 cap2, .slice a3 n3 cap3] w fun e w' => e = .returned (.bool true) ∧ Below w.heap.size w w' := by
  have HAW := hid (fun X => awake_c X)
  have HSM := hid (small_c w a n cap M hn hm H none 0 0)
  have HLG := hid (long_c (w.alloc (.cells #[.slice a2 n2 cap2, .slice a3 n3 cap3] 31)) (some ⟨w.heap.size, 0, none⟩) 2 2 [z, x] rfl (by decide) (rows_two2 hn2 hm2 H2 hn3 hm3 H3))
  have HB1 := hid (show Below w.heap.size w (w.alloc (.cells #[.slice a2 n2 cap2, .slice a3 n3 cap3] 31)) from (Below.refl _ _).alloc (Nat.le_refl _) _)
  have HW1 := hid (fun (X : World) (hX : Below w.heap.size w X) => weighs_c X a a2 n cap n2 cap2 M p z hn hn2 hm hm2 (H.below hX) (H2.below hX))
  have HW2 := hid (fun (X : World) (hX : Below w.heap.size w X) => r3Weighs_c X a a2 n cap n2 cap2 M p z hn hn2 hm hm2 (H.below hX) (H2.below hX))
  have HSH := hid (fun (X : World) (hX : Below w.heap.size w X) => r2Shown_c X a n cap M hn hm (H.below hX) a3 n3 cap3 x hn3 hm3 (H3.below hX))
  have HRD := hid (fun (hok : okM M = true) (hx2 : x.length = colsM M) (hx : milB x = true) (X : World) (hX : Below w.heap.size w X) => r2Read_c X a a3 n cap n3 cap3 M x hn hn3 (H.below hX) (H3.below hX) hok hx2 hx)
  have HBK := hid (fun (hok : okM M = true) (e2 : n2 = n) (hz : milB z = true) (X : World) (hX : Below w.heap.size w X) => r2Back_c X a a2 n cap cap2 M z hn (by rw [hn2]; exact e2) (H.below hX) (by have := H2.below hX; exact this) hok hz)
  have HXI := hid (fun (X : World) (hX : Below w.heap.size w X) => H3.below hX)
  have HZI := hid (fun (X : World) (hX : Below w.heap.size w X) => H2.below hX)
  obtain ⟨B0, hB0⟩ : ∃ B, B = longB [z, x] := ⟨_, rfl⟩
  rw [← hB0] at HLG
  obtain ⟨wb, hwb⟩ : ∃ B, B = weighB M p z := ⟨_, rfl⟩
  rw [← hwb] at HW1 HW2
  obtain ⟨sh, hsh⟩ : ∃ B, B = okShown M x := ⟨_, rfl⟩
  rw [← hsh] at HSH
  have hall : wb = true → sh = true → n2 = n ∧ okM M = true ∧ milB z = true ∧ x.length = colsM M ∧ milB x = true ∧ ∃ q : Nat, p = (q : Int) ∧ q < colsM M ∧ dotV z (readV M x) = vec (backF M (colsM M) z) q * vec x q := by
    rintro rfl rfl
    have ht := weigh_tells hwb.symm hsh.symm
    have h1 := hwb.symm
    unfold weighB at h1
    simp only [Bool.and_eq_true, decide_eq_true_eq] at h1
    have h2 := hsh.symm
    unfold okShown at h2
    simp only [Bool.and_eq_true, decide_eq_true_eq] at h2
    exact ⟨by omega, h1.1, h1.2.2.1, h2.2.1, h2.2.2, ht⟩
  have HALL := hid hall
  have HHN := hid hn
  have HHN2 := hid hn2
  have HHN3 := hid hn3
  clear hn hn2 hn3 H H2 H3 hB0 hwb hsh hall
  go_enter Try.func9, Try.ntmps9
  go_wp2_with (go_at_call 23; refine HSM.out.mono ?_; rintro e w1 ⟨⟨sb, rfl⟩, rfl⟩; refine Stop.of ?_)
  refine Stop.go ?_
  cases sb
  · go_wp2_with (go_at_call 14; refine (HAW.out _).mono ?_; rintro e w2 ⟨rfl, hb2⟩)
    go_ret
    exact ⟨rfl, hb2⟩
  · go_wp2_with (go_at_call 24; refine HLG.out.mono ?_; rintro e w2 ⟨rfl, hw2⟩; refine Stop.of ?_)
    refine Stop.go ?_
    rw [hw2] at HB1
    clear hw2 HLG HSM
    cases B0
    · go_wp2_with (go_at_call 42; refine (HW1.out _ HB1.out).mono ?_; rintro e w3 ⟨rfl, hb3⟩; refine Stop.of ?_)
      refine Stop.go ?_
      have HB3 := hid (chain HB1.out hb3)
      clear hb3 HB1 HW1
      go_wp2_with (go_at_call 43; refine (HW2.out _ HB3.out).mono ?_; rintro e w4 ⟨rfl, hb4⟩; refine Stop.of ?_)
      refine Stop.go ?_
      have HB4 := hid (chain HB3.out hb4)
      have hbb : (wb != wb) = false := by cases wb <;> rfl
      clear hb4 HB3 HW2
      cases wb
      · go_wp2_with (go_at_call 14; refine (HAW.out _).mono ?_; rintro e w5 ⟨rfl, hb5⟩)
        go_ret
        exact ⟨rfl, chain HB4.out hb5⟩
      · clear hbb
        go_wp2_with (go_at_call 44; refine (HSH.out _ HB4.out).mono ?_; rintro e w5 ⟨rfl, rfl⟩; refine Stop.of ?_)
        refine Stop.go ?_
        cases sh
        · go_wp2_with (go_at_call 14; refine (HAW.out _).mono ?_; rintro e w5 ⟨rfl, hb5⟩)
          go_ret
          exact ⟨rfl, chain HB4.out hb5⟩
        · obtain ⟨e2, hok, hmz, hxl, hmx, q, hpq, hqW, htell⟩ := HALL.out (by first | trivial | rfl) (by first | trivial | rfl)
          obtain ⟨hM, m1, m6, hc1, hc10⟩ := okM_ok hok
          have HR1 := hid (HRD.out hok hxl hmx w4 HB4.out)
          have HK1 := hid (HBK.out hok e2 hmz)
          have hbr := readV_bnd hM hc10 hmx
          have hbb := backF_bnd hM m6 hmz q
          have hbx := vec_mem (P := fun y => -1000000 ≤ y ∧ y ≤ 1000000) (by decide) (mil_le hmx) q
          have HRL := hid (show (readV M x).length = n by simp [readV]; exact HHN.out)
          have HBL := hid (backF_len M (colsM M) z)
          have HMZ := hid (mil_bnd hmz)
          have HBR := hid hbr
          obtain ⟨Y, hY⟩ : ∃ Y, Y = readV M x := ⟨_, rfl⟩
          rw [← hY] at HR1 htell HRL HBR
          obtain ⟨Bk, hBk⟩ : ∃ B, B = backF M (colsM M) z := ⟨_, rfl⟩
          rw [← hBk] at HK1 htell HBL hbb
          obtain ⟨W, hW⟩ : ∃ W, W = colsM M := ⟨_, rfl⟩
          rw [← hW] at HK1 HBL hqW hc10 hxl
          have hqx : q < x.length := by omega
          have hqn3 : q < n3 := by have := HHN3.out; omega
          have hnn6 : n ≤ 6 := by have := HHN.out; omega
          have HTE := hid htell
          have HQX := hid hqx
          subst hpq
          clear hok hmz hxl hmx hM m1 m6 hY hBk hW hbr htell HRD HBK HALL HSH hqx
          go_wp2_with (go_at_call 45; refine HR1.out.mono ?_; rintro e w5 ⟨v5, rfl, ho5, hb5⟩; refine Stop.of ?_)
          refine Stop.go ?_
          obtain ⟨ya, yc, rfl, hyi, _⟩ := ints_of_own ho5 HRL.out
          have HY5 := hid hyi
          have HB5 := hid (chain HB4.out hb5)
          clear ho5 hyi hb5 HR1
          go_wp2_with (go_at_call 46; refine (HK1.out w5 HB5.out).mono ?_; rintro e w6 ⟨v6, rfl, ho6, hb6⟩; refine Stop.of ?_)
          refine Stop.go ?_
          obtain ⟨ba, bc, rfl, hbi, _⟩ := ints_of_own ho6 HBL.out
          have HY6 := hid (HY5.out.below hb6)
          have HB6 := hid (chain HB5.out hb6)
          obtain ⟨b7, o7, rfl, hb7, hc7⟩ := hbi q (by rw [HBL.out]; exact hqW)
          obtain ⟨b8, o8, rfl, hb8, hc8⟩ := (HXI.out w6 HB6.out) q HQX.out
          have e7 : Bk[q]?.getD 0 = vec Bk q := rfl
          have e8 : x[q]?.getD 0 = vec x q := rfl
          rw [e7] at hc7
          rw [e8] at hc8
          subst e2
          have HDT := hid (fun (X : World) => (r2dot_c (lift w6 X) a2 ya n2 cap2 n2 yc z Y HHN2.out HRL.out (by omega) (Nat.le_refl _) ((HZI.out w6 HB6.out).below (lift_below w6 X)) (HY6.out.below (lift_below w6 X)) HMZ.out HBR.out).mono (R' := fun e w' => e = .returned (.int .i64 (dotV z Y)) ∧ Below (lift w6 X).heap.size (lift w6 X) w') (by rintro e w' ⟨rfl, k, rfl⟩; exact ⟨rfl, below_drewN (Below.refl _ _) k⟩))
          have l7 := lift_cell hb7 hc7
          have l8 := lift_cell hb8 hc8
          have hte := HTE.out
          obtain ⟨u, hu⟩ : ∃ u, u = vec Bk q := ⟨_, rfl⟩
          obtain ⟨v, hv⟩ : ∃ u, u = vec x q := ⟨_, rfl⟩
          rw [← hu] at l7 hte hbb
          rw [← hv] at l8 hte hbx
          obtain ⟨t, ht⟩ : ∃ t, t = dotV z Y := ⟨_, rfl⟩
          rw [← ht] at HDT hte
          have hmb := mul_bnd (show -(6000000 : Int) ≤ u ∧ u ≤ 6000000 by omega) (show -(1000000 : Int) ≤ v ∧ v ≤ 1000000 by omega)
          have hwr : IntKind.i64.wrap (u * v) = t := by rw [hte]; exact IntWalk.i64_in _ (by omega)
          have i1 : (0 : Int) ≤ (q : Int) := by omega
          have i2 : (q : Int) < (W : Int) := by omega
          have i3 : (q : Int) < (n3 : Int) := by omega
          clear ho6 hbi hb6 e7 e8 hu hv ht hte hmb HTE HK1 hb7 hb8 hc7 hc8
          go_wp2
          refine region_lift (by kernel_rfl) (by kernel_rfl) ?_
          repeat (go_big_quiet_step (first
            | (go_at_call 47; exact lift_calls (HDT.out _))
            | (go_at_call 14; exact lift_calls (HAW.out _))))
          refine wpQuiet_nil ?_
          rintro _ ⟨X, rfl⟩
          have hfin := chain HB6.out (lift_below w6 X)
          go_wp2
          go_ret
          exact ⟨rfl, hfin⟩
    · go_wp2_with (go_at_call 14; refine (HAW.out _).mono ?_; rintro e w3 ⟨rfl, hb3⟩)
      go_ret
      exact ⟨rfl, chain HB1.out hb3⟩
end Go.Proofs.Ytfipebkhomppmaa

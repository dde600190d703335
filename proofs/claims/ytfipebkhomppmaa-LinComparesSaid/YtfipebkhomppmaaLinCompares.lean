/- The statement LinCompares: the walk. -/
import Derived.Test.YtfipebkhomppmaaWideC
import Derived.Test.YtfipebkhomppmaaOpen
namespace Go.Proofs.Ytfipebkhomppmaa
open Go.RowKit
set_option linter.unusedVariables false

theorem cmpI_neg (V U : Int) : cmpI U V = -cmpI V U := by
  unfold cmpI
  rcases Int.lt_trichotomy V U with h | h | h
  · rw [if_pos h, if_neg (by omega), if_neg (by omega)]; rfl
  · rw [if_neg (by omega), if_pos h.symm, if_neg (by omega), if_pos h]; rfl
  · rw [if_pos h, if_neg (by omega), if_neg (by omega)]
theorem cmpI_bnd (V U : Int) : -1 ≤ cmpI V U ∧ cmpI V U ≤ 1 := by
  unfold cmpI
  split
  · omega
  · split <;> omega
theorem cmpI_le {V U : Int} : cmpI V U ≤ 0 ↔ V ≤ U := by
  unfold cmpI
  rcases Int.lt_trichotomy V U with h | h | h
  · rw [if_pos h]; omega
  · rw [if_neg (by omega), if_pos h]; omega
  · rw [if_neg (by omega), if_neg (by omega)]; omega
theorem cmpR_trans {an ad bn bd cn cd : Int} (h1 : ¬ 0 < cmpR an ad bn bd) (h2 : ¬ 0 < cmpR bn bd cn cd) : cmpR an ad cn cd ≤ 0 := by
  have e1 : an * dF bd ≤ bn * dF ad := cmpI_le.1 (show cmpI _ _ ≤ 0 by unfold cmpR at h1; omega)
  have e2 : bn * dF cd ≤ cn * dF bd := cmpI_le.1 (show cmpI _ _ ≤ 0 by unfold cmpR at h2; omega)
  refine cmpI_le.2 ?_
  have pa := dF_pos ad
  have pb := dF_pos bd
  have pc := dF_pos cd
  generalize dF ad = A at *
  generalize dF bd = B at *
  generalize dF cd = D at *
  have f1 : an * B * D ≤ bn * A * D := Int.mul_le_mul_of_nonneg_right e1 (by omega)
  have f2 : bn * D * A ≤ cn * B * A := Int.mul_le_mul_of_nonneg_right e2 (by omega)
  have f3 : an * D * B ≤ cn * A * B := by
    have g1 : an * D * B = an * B * D := by grind
    have g2 : bn * A * D = bn * D * A := by grind
    have g3 : cn * B * A = cn * A * B := by grind
    omega
  exact Int.le_of_mul_le_mul_right f3 (by omega)

set_option maxRecDepth 100000 in
set_option maxHeartbeats 2000000 in
theorem linCompares_c (w : World) (an ad : Int) (ha : Fits64 an) (ha' : Fits64 ad) (bn bd : Int) (hb : Fits64 bn) (hb' : Fits64 bd) (cn cd : Int) (hc : Fits64 cn) (hc' : Fits64 cd) :
    Calls Try.prog 7 #[.agg #[.int .i64 an, .int .i64 ad], .agg #[.int .i64 bn, .int .i64 bd], .agg #[.int .i64 cn, .int .i64 cd]] w fun e w' => e = .returned (.bool true) ∧ Below w.heap.size w w' := by
  have HAW := hid (fun X => awake_c X)
  have H1 := hid (fun X => lcompare_c X an ad bn bd ha ha' hb hb')
  have H2 := hid (fun X => rcompare_c _ X an ad bn bd ha ha' hb hb' (Nat.le_refl _))
  have H3 := hid (fun X => lcompare_c X bn bd an ad hb hb' ha ha')
  have H4 := hid (fun X => lcompare_c X bn bd cn cd hb hb' hc hc')
  have H5 := hid (fun X => lcompare_c X an ad cn cd ha ha' hc hc')
  have htr := cmpR_trans (an := an) (ad := ad) (bn := bn) (bd := bd) (cn := cn) (cd := cd)
  have hng : cmpR bn bd an ad = -cmpR an ad bn bd := cmpI_neg _ _
  have hb1 : -1 ≤ cmpR an ad bn bd ∧ cmpR an ad bn bd ≤ 1 := cmpI_bnd _ _
  rw [hng] at H3
  obtain ⟨n, hn⟩ : ∃ n, n = cmpR an ad bn bd := ⟨_, rfl⟩
  obtain ⟨m, hm⟩ : ∃ n, n = cmpR bn bd cn cd := ⟨_, rfl⟩
  obtain ⟨k, hk⟩ : ∃ n, n = cmpR an ad cn cd := ⟨_, rfl⟩
  rw [← hn] at H1 H2 H3 htr hb1
  rw [← hm] at H4 htr
  rw [← hk] at H5 htr
  have hw : IntKind.i64.wrap (-n) = -n := IntWalk.i64_in _ (by omega)
  have hnn : (n != n) = false := by simp
  have hnn2 : ((-n : Int) != -n) = false := by simp
  have HTR := hid htr
  obtain ⟨W, hW⟩ : ∃ W, W = ((w.alloc (.cells #[.int .i64 an, .int .i64 ad] 46)).alloc (.cells #[.int .i64 bn, .int .i64 bd] 46)).alloc (.cells #[.int .i64 cn, .int .i64 cd] 46) := ⟨_, rfl⟩
  have hbW : Below w.heap.size w W := by rw [hW]; exact (((Below.refl _ _).alloc (Nat.le_refl _) _).alloc (by simp) _).alloc (by simp; omega) _
  have hsW : W.heap.size = w.heap.size + 3 := by rw [hW]; simp
  have hcs : W.cell? ⟨w.heap.size, 0, none⟩ = some (.int .i64 an) ∧ W.cell? ⟨w.heap.size, 1, none⟩ = some (.int .i64 ad) ∧ W.cell? ⟨w.heap.size + 1, 0, none⟩ = some (.int .i64 bn) ∧ W.cell? ⟨w.heap.size + 1, 1, none⟩ = some (.int .i64 bd) ∧ W.cell? ⟨w.heap.size + 2, 0, none⟩ = some (.int .i64 cn) ∧ W.cell? ⟨w.heap.size + 2, 1, none⟩ = some (.int .i64 cd) := by
    rw [hW]
    refine ⟨?_, ?_, ?_, ?_, ?_, ?_⟩
    · rw [World.cell?_alloc_past _ _ _ (by simp; omega), World.cell?_alloc_past _ _ _ (by simp), World.cell?_alloc_at _ _ _ _ rfl]; rfl
    · rw [World.cell?_alloc_past _ _ _ (by simp; omega), World.cell?_alloc_past _ _ _ (by simp), World.cell?_alloc_at _ _ _ _ rfl]; rfl
    · rw [World.cell?_alloc_past _ _ _ (by simp), World.cell?_alloc_at _ _ _ _ (by simp)]; rfl
    · rw [World.cell?_alloc_past _ _ _ (by simp), World.cell?_alloc_at _ _ _ _ (by simp)]; rfl
    · rw [World.cell?_alloc_at _ _ _ _ (by simp)]; rfl
    · rw [World.cell?_alloc_at _ _ _ _ (by simp)]; rfl
  have HCS := hid (fun (X : World) (hX : Below W.heap.size W X) => show X.cell? ⟨w.heap.size, 0, none⟩ = some (.int .i64 an) ∧ X.cell? ⟨w.heap.size, 1, none⟩ = some (.int .i64 ad) ∧ X.cell? ⟨w.heap.size + 1, 0, none⟩ = some (.int .i64 bn) ∧ X.cell? ⟨w.heap.size + 1, 1, none⟩ = some (.int .i64 bd) ∧ X.cell? ⟨w.heap.size + 2, 0, none⟩ = some (.int .i64 cn) ∧ X.cell? ⟨w.heap.size + 2, 1, none⟩ = some (.int .i64 cd) from
    ⟨((bcell hX).1 _ _ (by omega)).trans hcs.1, ((bcell hX).1 _ _ (by omega)).trans hcs.2.1, ((bcell hX).1 _ _ (by omega)).trans hcs.2.2.1, ((bcell hX).1 _ _ (by omega)).trans hcs.2.2.2.1, ((bcell hX).1 _ _ (by omega)).trans hcs.2.2.2.2.1, ((bcell hX).1 _ _ (by omega)).trans hcs.2.2.2.2.2⟩)
  have HWW := hid hW
  have HBW := hid hbW
  clear hn hm hk hng htr hcs hW hbW hsW ha ha' hb hb' hc hc'
  go_enter Try.func7, Try.ntmps7
  go_wp2_with (go_at_call 35; refine (H1.out _).mono ?_; rintro e w1 ⟨rfl, hb1⟩; refine Stop.of ?_)
  refine Stop.go ?_
  rw [← HWW.out] at hb1
  obtain ⟨q1, q2, q3, q4, q5, q6⟩ := HCS.out w1 hb1
  have HB1 := hid hb1
  clear hb1
  go_wp2_with (go_at_call 36; refine (H2.out _).mono ?_; rintro e w2 ⟨rfl, hb2⟩; refine Stop.of ?_)
  refine Stop.go ?_
  have HB2 := hid (chain HB1.out hb2)
  clear q1 q2 q3 q4 q5 q6 hb2
  obtain ⟨q1, q2, q3, q4, q5, q6⟩ := HCS.out w2 HB2.out
  go_wp2_with (go_at_call 35; refine (H3.out _).mono ?_; rintro e w3 ⟨rfl, hb3⟩; refine Stop.of ?_)
  refine Stop.go ?_
  have HB3 := hid (chain HB2.out hb3)
  clear q1 q2 q3 q4 q5 q6 hb3
  obtain ⟨q1, q2, q3, q4, q5, q6⟩ := HCS.out w3 HB3.out
  by_cases c1 : 0 < n
  · go_wp2_with (go_at_call 14; refine (HAW.out _).mono ?_; rintro e w4 ⟨rfl, hb4⟩)
    go_ret
    exact ⟨rfl, chain HBW.out (chain HB3.out hb4)⟩
  · go_wp2_with (go_at_call 35; refine (H4.out _).mono ?_; rintro e w4 ⟨rfl, hb4⟩; refine Stop.of ?_)
    refine Stop.go ?_
    have HB4 := hid (chain HB3.out hb4)
    clear q1 q2 q3 q4 q5 q6 hb4
    obtain ⟨q1, q2, q3, q4, q5, q6⟩ := HCS.out w4 HB4.out
    by_cases c2 : 0 < m
    · go_wp2_with (go_at_call 14; refine (HAW.out _).mono ?_; rintro e w5 ⟨rfl, hb5⟩)
      go_ret
      exact ⟨rfl, chain HBW.out (chain HB4.out hb5)⟩
    · have hle := HTR.out (by omega) (by omega)
      go_wp2_with (go_at_call 35; refine (H5.out _).mono ?_; rintro e w5 ⟨rfl, hb5⟩; refine Stop.of ?_)
      refine Stop.go ?_
      have HB5 := hid (chain HB4.out hb5)
      go_wp2_with (go_at_call 14; refine (HAW.out _).mono ?_; rintro e w6 ⟨rfl, hb6⟩)
      go_ret
      exact ⟨rfl, chain HBW.out (chain HB5.out hb6)⟩
end Go.Proofs.Ytfipebkhomppmaa

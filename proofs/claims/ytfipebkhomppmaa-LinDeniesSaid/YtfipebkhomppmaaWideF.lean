/- Walks: numbers of 128 bits (package frac): Plus, Opposite, Times, of any sign. · Walks: sums of fractions (package frac): Plus, Compare. · Walks: Valid (package frac), Reading, Makes (package lin). -/
import Derived.Test.YtfipebkhomppmaaWideB
import Derived.Test.YtfipebkhomppmaaTakeU
import Derived.Laws.Externs
import Derived.BigQuiet
import Derived.Test.YtfipebkhomppmaaRatC
import Derived.Test.YtfipebkhomppmaaKnI
namespace Go.Proofs.Ytfipebkhomppmaa
section
open Go.RowKit Go.Lib
set_option linter.unusedVariables false

theorem AnyT.nextB {P : Program} {md : Region.Mode} {ops : Array Oper} {Q : Exit → Act → World → Prop} {T : Nat → World → Prop} {i j : Nat} {fuel : Nat} {listed : Array Bool} {a : Act} {w : World} (hr : Region.ready md ops listed = [i, j])
    (h1 : wpOp P ops Q i (fun a' w' => T i w' ∧ AnyT P md ops Q T fuel (listed.setIfInBounds i true) a' w') a w)
    (h2 : wpOp P ops Q j (fun a' w' => T j w' ∧ AnyT P md ops Q T fuel (listed.setIfInBounds j true) a' w') a w) : AnyT P md ops Q T (fuel + 1) listed a w :=
  ⟨fun h0 => (by rw [hr] at h0; cases h0), fun k hk => by
    rw [hr] at hk
    have : k = i ∨ k = j := by simpa using hk
    rcases this with rfl | rfl
    · exact h1
    · exact h2⟩

theorem add64 (x y b : Int) (hx : 0 ≤ x) (hx' : x < 18446744073709551616) (hy : 0 ≤ y) (hy' : y < 18446744073709551616) (hb0 : 0 ≤ b) (hb : b ≤ 1) (w : World) : (callFunc 162 #[.int .u64 x, .int .u64 y, .int .u64 b]).run Try.prog w =
    .ok (.value (.tuple #[.int .u64 ((x + y + b) % 18446744073709551616), .int .u64 ((x + y + b) / 18446744073709551616)])) w := by
  rw [run_callFunc_extern Try.func162 (by kernel_rfl) (by kernel_rfl) (by kernel_rfl) (e := add64Entry) (by kernel_rfl), run_add64 x y b (by omega) (by omega) (by omega) (by omega)]
  simp only [Result.andThen]

/-- 2^126 -/
def W126 : Int := 85070591730234615865843651857942052864

theorem wplus_c (w : World) (V U : Int) (h : -170141183460469231731687303715884105728 ≤ V + U ∧ V + U < 170141183460469231731687303715884105728) (hV : -170141183460469231731687303715884105728 ≤ V ∧ V < 170141183460469231731687303715884105728) (hU : -170141183460469231731687303715884105728 ≤ U ∧ U < 170141183460469231731687303715884105728) :
    Calls Try.prog 143 #[wideV V, wideV U] w fun e w' => e = .returned (wideV (V + U)) ∧ Below w.heap.size w w' := by
  unfold wideV
  obtain ⟨a, ha⟩ : ∃ a, a = V / 18446744073709551616 := ⟨_, rfl⟩
  obtain ⟨b, hb⟩ : ∃ a, a = V % 18446744073709551616 := ⟨_, rfl⟩
  obtain ⟨c, hc⟩ : ∃ a, a = U / 18446744073709551616 := ⟨_, rfl⟩
  obtain ⟨d, hd⟩ : ∃ a, a = U % 18446744073709551616 := ⟨_, rfl⟩
  obtain ⟨r1, hr1⟩ : ∃ a, a = (V + U) / 18446744073709551616 := ⟨_, rfl⟩
  obtain ⟨r2, hr2⟩ : ∃ a, a = (V + U) % 18446744073709551616 := ⟨_, rfl⟩
  obtain ⟨k, hk⟩ : ∃ k, k = (b + d + 0) / 18446744073709551616 := ⟨_, rfl⟩
  obtain ⟨a', ha'⟩ : ∃ k, k = IntKind.u64.wrap a := ⟨_, rfl⟩
  obtain ⟨c', hc'⟩ : ∃ k, k = IntKind.u64.wrap c := ⟨_, rfl⟩
  have ea : a' = a % 18446744073709551616 := by rw [ha', IntKind.wrap_u64]
  have ec : c' = c % 18446744073709551616 := by rw [hc', IntKind.wrap_u64]
  obtain ⟨s, hs⟩ : ∃ s, s = (a' + c' + k) % 18446744073709551616 := ⟨_, rfl⟩
  obtain ⟨t, ht⟩ : ∃ s, s = (a' + c' + k) / 18446744073709551616 := ⟨_, rfl⟩
  have k0 : 0 ≤ k ∧ k ≤ 1 := by omega
  have s1 : ∀ w, (callFunc 162 #[.int .u64 b, .int .u64 d, .int .u64 0]).run Try.prog w = .ok (.value (.tuple #[.int .u64 r2, .int .u64 k])) w := fun w => by
    rw [add64 b d 0 (by omega) (by omega) (by omega) (by omega) (by decide) (by decide), ← hk, show (b + d + 0) % 18446744073709551616 = r2 by omega]
  have s2 : ∀ w, (callFunc 162 #[.int .u64 a', .int .u64 c', .int .u64 k]).run Try.prog w = .ok (.value (.tuple #[.int .u64 s, .int .u64 t])) w := fun w => by
    rw [add64 a' c' k (by omega) (by omega) (by omega) (by omega) k0.1 k0.2, ← hs, ← ht]
  have hw : IntKind.i64.wrap s = r1 := by rw [IntKind.wrap_i64]; omega
  have ha2 : IntKind.u64.wrap a = a' := ha'.symm
  have hc2 : IntKind.u64.wrap c = c' := hc'.symm
  rw [← ha, ← hb, ← hc, ← hd, ← hr1, ← hr2]
  clear ha hb hc hd hr1 hr2 hk ha' hc' ea ec hs ht k0 h hV hU
  go_enter Try.func143, Try.ntmps143
  go_wp2_with (first | simp only [s1] | simp only [s2])
  simp [bodyPost, results, Try.results143, go_sem]
  exact (((Below.refl _ _).alloc (Nat.le_refl _) _).alloc (by simp) _).alloc (by simp; omega) _

/-- Opposite, of any number -/
theorem wopp_c (w : World) (V : Int) (hV : -170141183460469231731687303715884105728 < V ∧ V < 170141183460469231731687303715884105728) :
    Calls Try.prog 157 #[wideV V] w fun e w' => e = .returned (wideV (-V)) ∧ Below w.heap.size w w' := by
  unfold wideV
  obtain ⟨a, ha⟩ : ∃ a, a = V / 18446744073709551616 := ⟨_, rfl⟩
  obtain ⟨l, hl⟩ : ∃ a, a = V % 18446744073709551616 := ⟨_, rfl⟩
  obtain ⟨R1, hR1⟩ : ∃ R, R = (-V) / 18446744073709551616 := ⟨_, rfl⟩
  obtain ⟨R2, hR2⟩ : ∃ R, R = (-V) % 18446744073709551616 := ⟨_, rfl⟩
  obtain ⟨b, hb⟩ : ∃ b : Int, b = if (0 : Int) < l then 1 else 0 := ⟨_, rfl⟩
  have b0 : 0 ≤ b := by rw [hb]; split <;> decide
  have b1 : b ≤ 1 := by rw [hb]; split <;> decide
  have hbl : (0 < l → b = 1) ∧ (¬ 0 < l → b = 0) := by rw [hb]; exact ⟨fun h => if_pos h, fun h => if_neg h⟩
  obtain ⟨h, hh⟩ : ∃ k, k = IntKind.u64.wrap a := ⟨_, rfl⟩
  have eh : h = a % 18446744073709551616 := by rw [hh, IntKind.wrap_u64]
  obtain ⟨R3, hR3⟩ : ∃ R, R = (0 - h - b) % 18446744073709551616 := ⟨_, rfl⟩
  obtain ⟨bo, hbo⟩ : ∃ bo : Int, bo = if 0 < h + b then 1 else 0 := ⟨_, rfl⟩
  have s1 : ∀ w, (callFunc 170 #[.int .u64 0, .int .u64 l, .int .u64 0]).run Try.prog w = .ok (.value (.tuple #[.int .u64 R2, .int .u64 b])) w := fun w => by
    rw [sub64_0 0 l (by decide) (by omega) (by omega), ← hb, show (0 - l) % 18446744073709551616 = R2 by omega]
  have s2 : ∀ w, (callFunc 170 #[.int .u64 0, .int .u64 h, .int .u64 b]).run Try.prog w = .ok (.value (.tuple #[.int .u64 R3, .int .u64 bo])) w := fun w => by
    rw [sub64 0 h b (by decide) (by omega) (by omega) b0 b1, ← hR3, ← hbo]
  have hw : IntKind.i64.wrap R3 = R1 := by
    rw [IntKind.wrap_i64]
    rcases Int.lt_or_le 0 l with h1 | h1
    · have := hbl.1 h1; omega
    · have := hbl.2 (by omega); omega
  have hu : IntKind.u64.wrap a = h := hh.symm
  rw [← ha, ← hl, ← hR1, ← hR2]
  clear ha hl hR1 hR2 hb b0 b1 hbl hh eh hR3 hbo hV
  go_enter Try.func157, Try.ntmps157
  go_wp2_with (first | simp only [s1] | simp only [s2])
  simp [bodyPost, results, Try.results157, go_sem]
  exact ((Below.refl _ _).alloc (Nat.le_refl _) _).alloc (by simp) _

/-- a sum n / d -/
def sumV (n d : Int) : Value := .agg #[.int .i64 (n / 18446744073709551616), .int .u64 (n % 18446744073709551616), .int .i64 (d / 18446744073709551616), .int .u64 (d % 18446744073709551616)]

theorem wzero_c (w : World) : Calls Try.prog 102 #[] w fun e w' => e = .returned (sumV 0 1) ∧ Below w.heap.size w w' := by
  have h0 : sumV 0 1 = .agg #[.int .i64 0, .int .u64 0, .int .i64 0, .int .u64 1] := by simp [sumV]
  rw [h0]
  go_enter Try.func102, Try.ntmps102
  go_wp2
  simp [bodyPost, results, Try.results102, go_sem]
  exact (Below.refl _ _).alloc (Nat.le_refl _) _

theorem div_mod_join {P HX q o r K : Nat} (h : P = HX * K + q) (ho : o = q / K) (hr : r = q % K) : P = (HX + o) * K + r := by
  have := Nat.div_add_mod q K
  rw [← ho, ← hr, Nat.mul_comm] at this
  rw [h, Nat.add_mul]; omega
theorem mul_split {v H l K x : Nat} (hv : v = H * K + l) : v * x = H * x * K + l * x := by rw [hv, Nat.add_mul, Nat.mul_right_comm]
set_option maxRecDepth 100000 in
set_option maxHeartbeats 1000000 in
/-- Times, of a number from 0 on -/
theorem wtimes0_c (w : World) (V n : Int) (h0 : 0 ≤ V) (hV : V < 170141183460469231731687303715884105728) (hn : -9223372036854775808 < n ∧ n ≤ 9223372036854775807) (hP : V * (n.natAbs : Nat) < 170141183460469231731687303715884105728) :
    Calls Try.prog 142 #[wideV V, .int .i64 n] w fun e w' => e = .returned (wideV (V * n)) ∧ Below w.heap.size w w' := by
  have HSZ := hid (fun X => size_c X n ⟨by omega, hn.2⟩)
  obtain ⟨x, hx⟩ : ∃ x, x = n.natAbs := ⟨_, rfl⟩
  rw [← hx] at HSZ hP
  obtain ⟨v, rfl⟩ := Int.eq_ofNat_of_zero_le h0
  have hx1 : x ≤ 9223372036854775807 := by omega
  obtain ⟨H, hH⟩ : ∃ H, H = v / 18446744073709551616 := ⟨_, rfl⟩
  obtain ⟨l, hl⟩ : ∃ H, H = v % 18446744073709551616 := ⟨_, rfl⟩
  have hv : v = H * 18446744073709551616 + l := by omega
  have hl1 : l < 18446744073709551616 := by omega
  have hPn : v * x < 170141183460469231731687303715884105728 := by rw [← Int.natCast_mul] at hP; omega
  have hmul : v * x = H * x * 18446744073709551616 + l * x := mul_split hv
  obtain ⟨HX, hHX⟩ : ∃ k, k = H * x := ⟨_, rfl⟩
  obtain ⟨o, ho⟩ : ∃ k, k = l * x / 18446744073709551616 := ⟨_, rfl⟩
  obtain ⟨r, hr⟩ : ∃ k, k = l * x % 18446744073709551616 := ⟨_, rfl⟩
  have HM := hid (fun X => mul64_c l x hl1 (by omega) X)
  rw [← ho, ← hr] at HM
  obtain ⟨P, hPe⟩ : ∃ P, P = v * x := ⟨_, rfl⟩
  rw [← hPe] at hPn hmul
  rw [← hHX] at hmul
  have hPd : P = (HX + o) * 18446744073709551616 + r := div_mod_join hmul ho hr
  have hsum : HX + o < 9223372036854775808 := by omega
  have hr1 : r < 18446744073709551616 := by omega
  have hw0 : wideV (v : Int) = .agg #[.int .i64 H, .int .u64 l] := by
    unfold wideV
    rw [show (v : Int) / 18446744073709551616 = H by omega, show (v : Int) % 18446744073709551616 = l by omega]
  obtain ⟨R, hR⟩ : ∃ R : Nat, R = HX + o := ⟨_, rfl⟩
  have hwP : wideV (P : Int) = .agg #[.int .i64 R, .int .u64 r] := by
    unfold wideV
    rw [show (P : Int) / 18446744073709551616 = R by omega, show (P : Int) % 18446744073709551616 = r by omega]
  have HWP := hid hwP
  have e1 : IntKind.i64.wrap (x : Int) = x := IntWalk.i64_in _ (by omega)
  have e2 : IntKind.i64.wrap ((H : Int) * x) = HX := by rw [show (H : Int) * x = (HX : Int) by rw [hHX]; simp]; exact IntWalk.i64_in _ (by omega)
  have e3 : IntKind.i64.wrap (o : Int) = o := IntWalk.i64_in _ (by omega)
  have e4 : IntKind.i64.wrap ((HX : Int) + o) = R := by rw [IntWalk.i64_in _ (by omega)]; omega
  have hneg : ¬ ((H : Int) < 0) := by omega
  have hres : (v : Int) * n = if n < 0 then -(P : Int) else (P : Int) := by
    have : (P : Int) = (v : Int) * x := by rw [hPe]; simp
    split
    · rw [this, show n = -(x : Int) by omega, Int.mul_neg]
    · rw [this, show n = (x : Int) by omega]
  have HO := hid (fun X => wopp_c X (P : Int) (by omega))
  rw [hwP] at HO
  rw [hw0, hres]
  clear hwP
  obtain ⟨s, hs⟩ : ∃ s, s = w.heap.size := ⟨_, rfl⟩
  obtain ⟨wa, hwa⟩ : ∃ wa, wa = (w.alloc (.cells #[.int .i64 H, .int .u64 l] 103)).alloc (.cells #[.int .i64 0, .int .u64 0] 103) := ⟨_, rfl⟩
  have hba : Below w.heap.size w wa := by rw [hwa]; exact ((Below.refl _ _).alloc (Nat.le_refl _) _).alloc (by simp) _
  have l0 := lift_cell (W := wa) (b := s) (o := 0) (by rw [hwa, hs]; simp; omega) (show _ = some (.int .i64 H) by rw [hwa, hs, World.cell?_alloc_past _ _ _ (by simp), World.cell?_alloc_at _ _ _ _ rfl]; rfl)
  have l1 := lift_cell (W := wa) (b := s) (o := 1) (by rw [hwa, hs]; simp; omega) (show _ = some (.int .u64 l) by rw [hwa, hs, World.cell?_alloc_past _ _ _ (by simp), World.cell?_alloc_at _ _ _ _ rfl]; rfl)
  have q0 : wa.heap[s + 1]? = some (.cells #[.int .i64 0, .int .u64 0] 103 (0, 0)) := by
    have := World.alloc_heap_new (w.alloc (.cells #[.int .i64 H, .int .u64 l] 103)) (.cells #[.int .i64 0, .int .u64 0] 103)
    rw [hwa, hs]
    simpa using this
  have hs1 : s + 1 < wa.heap.size := (Array.getElem?_eq_some_iff.1 q0).1
  have HS := hid (fun (Y : World) (hY : Below wa.heap.size wa Y) => show Y.cell? ⟨s, 0, none⟩ = some (.int .i64 H) from by
    refine (hY.cell (p := ⟨s, 0, none⟩) (by show s < _; omega)).trans ?_
    rw [hwa, hs, World.cell?_alloc_past _ _ _ (by simp), World.cell?_alloc_at _ _ _ _ rfl]; rfl)
  have HR := hid (fun (Y : World) (hY : Below wa.heap.size wa Y) => show Y.cell? ⟨s + 1, 0, none⟩ = some (.int .i64 0) ∧ Y.cell? ⟨s + 1, 1, none⟩ = some (.int .u64 0) ∧ Y.frozen? ⟨s + 1, 0, none⟩ = false ∧ Y.frozen? ⟨s + 1, 1, none⟩ = false ∧ s + 1 < Y.heap.size from by
    have h1 := (hY.block (s + 1) hs1).trans q0
    exact ⟨by simp [World.cell?, h1], by simp [World.cell?, h1], by simp [World.frozen?, h1], by simp [World.frozen?, h1], (Array.getElem?_eq_some_iff.1 h1).1⟩)
  have HFIN := hid (fun (Y : World) (hY : Below wa.heap.size wa Y) (u v : Value) => show Below w.heap.size w ((Y.setCell ⟨s + 1, 0, none⟩ u).setCell ⟨s + 1, 1, none⟩ v) from
    below_set (below_set (chain hba hY) (by omega) 0 u) (by omega) 1 v)
  clear hx hv hH hl hPn hP hmul hHX ho hr hPe hPd hsum hr1 hw0 hR hres h0 hV hn q0 hs1 hba
  go_enter Try.func142, Try.ntmps142
  go_wp2_with fail
  rw [← hs, ← hwa]
  clear hs hwa
  go_wp2
  refine region_lift (by kernel_rfl) (by kernel_rfl) ?_
  repeat (go_big_quiet_step (first
    | (go_at_call 156; exact lift_calls ((HSZ.out _).mono fun e w' ⟨h1, h2⟩ => ⟨h1, h2 ▸ Below.refl _ _⟩))
    | (go_at_call 155; exact lift_calls ((HM.out _).mono fun e w' ⟨h1, h2⟩ => ⟨h1, h2 ▸ Below.refl _ _⟩))))
  refine wpQuiet_nil ?_
  rintro _ ⟨X, rfl⟩
  have HB1 := hid (lift_below wa X)
  go_wp2
  refine plain_region (fun j' X => wAll j' = true → X.cell? ⟨s, 0, none⟩ = some (.int .i64 H)) (by kernel_rfl) ?_
  have hbd : Below wa.heap.size wa (lift wa X).drew := HB1.out.drew
  generalize (lift wa X).drew = wd at hbd ⊢
  refine AnyT.takeD (i := 0) (v := .pointer (some ⟨s, 0, none⟩)) rfl rfl (by kernel_rfl) (by kernel_rfl) (by kernel_rfl) (by first | exact (fun _ _ _ h => h) | exact (fun _ _ _ h => absurd h.1 (by simp))) (by kernel_rfl) (by rfl) (by rintro w' y1; go_simp) (HS.out _ hbd) ?_; go_frame
  refine AnyT.takeD (i := 1) (v := .int .i64 H) rfl rfl (by kernel_rfl) (by kernel_rfl) (by kernel_rfl) (by first | exact (fun _ _ _ h => h) | exact (fun _ _ _ h => absurd h.1 (by simp))) (by kernel_rfl) (by rfl) (by rintro w' y1; go_simp) (HS.out _ hbd) ?_; go_frame
  refine AnyT.takeD (i := 2) (v := .int .i64 n) rfl rfl (by kernel_rfl) (by kernel_rfl) (by kernel_rfl) (by first | exact (fun _ _ _ h => h) | exact (fun _ _ _ h => absurd h.1 (by simp))) (by kernel_rfl) (by rfl) (by rintro w' y1; go_simp) (HS.out _ hbd) ?_; go_frame
  refine AnyT.takeD (i := 6) (v := .int .u64 o) rfl rfl (by kernel_rfl) (by kernel_rfl) (by kernel_rfl) (by first | exact (fun _ _ _ h => h) | exact (fun _ _ _ h => absurd h.1 (by simp))) (by kernel_rfl) (by rfl) (by rintro w' y1; go_simp) (HS.out _ hbd) ?_; go_frame
  refine AnyT.takeD (i := 7) (v := .int .i64 o) rfl rfl (by kernel_rfl) (by kernel_rfl) (by kernel_rfl) (by first | exact (fun _ _ _ h => h) | exact (fun _ _ _ h => absurd h.1 (by simp))) (by kernel_rfl) (by rfl) (by rintro w' y1; go_simp) (HS.out _ hbd) ?_; go_frame
  refine AnyT.takeD (i := 9) (v := .int .u64 r) rfl rfl (by kernel_rfl) (by kernel_rfl) (by kernel_rfl) (by first | exact (fun _ _ _ h => h) | exact (fun _ _ _ h => absurd h.1 (by simp))) (by kernel_rfl) (by rfl) (by rintro w' y1; go_simp) (HS.out _ hbd) ?_; go_frame
  refine AnyT.nextB (i := 3) (j := 11) (by kernel_rfl) (wpOp_of_list rfl ?_) (wpOp_of_list rfl ?_)
  · go_wp2_with (go_at_call 156; refine (HSZ.out _).mono ?_; rintro e w1 ⟨rfl, rfl⟩; refine Stop.of ?_)
    refine Stop.go ?_
    go_wp2
    refine ⟨fun _ => HS.out _ hbd, ?_⟩
    refine AnyT.takeD (i := 4) (v := .int .i64 x) rfl rfl (by kernel_rfl) (by kernel_rfl) (by kernel_rfl) (by first | exact (fun _ _ _ h => h) | exact (fun _ _ _ h => absurd h.1 (by simp))) (by kernel_rfl) (by rfl) (by rintro w' y1; go_simp) (HS.out _ hbd) ?_; go_frame
    refine AnyT.takeD (i := 5) (v := .int .i64 HX) rfl rfl (by kernel_rfl) (by kernel_rfl) (by kernel_rfl) (by first | exact (fun _ _ _ h => h) | exact (fun _ _ _ h => absurd h.1 (by simp))) (by kernel_rfl) (by rfl) (by rintro w' y1; go_simp) (HS.out _ hbd) ?_; go_frame
    refine AnyT.takeD (i := 8) (v := .int .i64 R) rfl rfl (by kernel_rfl) (by kernel_rfl) (by kernel_rfl) (by first | exact (fun _ _ _ h => h) | exact (fun _ _ _ h => absurd h.1 (by simp))) (by kernel_rfl) (by rfl) (by rintro w' y1; go_simp) (HS.out _ hbd) ?_; go_frame
    refine AnyT.takeD (i := 10) (v := .agg #[.int .i64 R, .int .u64 r]) rfl rfl (by kernel_rfl) (by kernel_rfl) (by kernel_rfl) (by first | exact (fun _ _ _ h => h) | exact (fun _ _ _ h => absurd h.1 (by simp))) (by kernel_rfl) (by rfl) (by rintro w' y1; go_simp) (HS.out _ hbd) ?_; go_frame
    refine AnyT.next (i := 11) (by kernel_rfl) rfl (wpOp_of_list rfl ?_)
    have hbA : Below wa.heap.size wa (wd.alloc (.cells #[.int .i64 0, .int .u64 0] 103)) := hbd.alloc hbd.size _
    go_wp2
    refine ⟨fun _ => HS.out _ hbA, ?_⟩
    refine AnyT.next (i := 12) (by kernel_rfl) rfl (wpOp_of_list rfl ?_)
    have hbF : Below wa.heap.size wa (wd.alloc (.cells #[.int .i64 R, .int .u64 r] 103)) := hbd.alloc hbd.size _
    have HBF := hid hbF
    have HR2 := hid (HR.out _ hbF)
    have HQ := hid (show ∀ Y, Below (wd.alloc (.cells #[.int .i64 R, .int .u64 r] 103)).heap.size (wd.alloc (.cells #[.int .i64 R, .int .u64 r] 103)) Y → Y.cell? ⟨wd.heap.size, 0, none⟩ = some (.int .i64 R) ∧ Y.cell? ⟨wd.heap.size, 1, none⟩ = some (.int .u64 r) from fun Y hY => by
      have h1 := (hY.block wd.heap.size (by simp)).trans (World.alloc_heap_new wd _)
      exact ⟨by simp [World.cell?, h1], by simp [World.cell?, h1]⟩)
    clear hbA
    go_wp2
    refine ⟨fun _ => HS.out _ HBF.out, ?_⟩
    refine AnyT.done (by kernel_rfl) ?_ _
    clear hbF hbd
    obtain ⟨wz, hwz⟩ : ∃ wz, wz = wd.alloc (.cells #[.int .i64 R, .int .u64 r] 103) := ⟨_, rfl⟩
    rw [← hwz] at HBF HR2 HQ ⊢
    clear hwz
    obtain ⟨c0, c1, f0, f1, hlt⟩ := HR2.out
    obtain ⟨d0, d1⟩ := HQ.out wz (Below.refl _ _)
    by_cases hn0 : n < 0
    · have hnb : decide (n < 0) = true := by simp [hn0]
      go_wp2_with (go_at_call 157; refine (HO.out wz).mono ?_; rintro e w2 ⟨rfl, hb2⟩; refine Stop.of ?_)
      refine Stop.go ?_
      have HB2 := hid (chain HBF.out hb2)
      obtain ⟨c0, c1, f0, f1, hlt⟩ := HR.out _ HB2.out
      have HFI := hid (HFIN.out _ HB2.out)
      have hwz := (show wideV (-(P : Int)) = .agg #[.int .i64 ((-(P : Int)) / 18446744073709551616), .int .u64 ((-(P : Int)) % 18446744073709551616)] from rfl)
      obtain ⟨z1, hz1⟩ : ∃ z, z = (-(P : Int)) / 18446744073709551616 := ⟨_, rfl⟩
      obtain ⟨z2, hz2⟩ : ∃ z, z = (-(P : Int)) % 18446744073709551616 := ⟨_, rfl⟩
      rw [← hz1, ← hz2] at hwz
      have HWZ := hid hwz
      rw [hwz]
      clear hwz hb2 HFIN hz1 hz2
      go_wp2
      refine bodyPost_ret (v := .agg #[.int .i64 z1, .int .u64 z2]) ?_ rfl ⟨by first | rw [HWZ.out] | rw [if_pos (by omega), HWZ.out], HFI.out _ _⟩
      simp [results, Try.results142, go_sem, c0, c1, f0, f1, hlt]
    · have hnb : decide (n < 0) = false := by simp [hn0]
      have HFI := hid (HFIN.out _ HBF.out)
      clear HFIN
      go_wp2
      refine bodyPost_ret (v := .agg #[.int .i64 R, .int .u64 r]) ?_ rfl ⟨by first | rw [HWP.out] | rw [if_neg (by omega), HWP.out], HFI.out _ _⟩
      simp [results, Try.results142, go_sem, c0, c1, f0, f1, hlt]
  · go_wp2
    have hbA : Below wa.heap.size wa (wd.alloc (.cells #[.int .i64 0, .int .u64 0] 103)) := hbd.alloc hbd.size _
    refine ⟨fun _ => HS.out _ hbA, ?_⟩
    refine AnyT.next (i := 3) (by kernel_rfl) rfl (wpOp_of_list rfl ?_)
    go_wp2_with (go_at_call 156; refine (HSZ.out _).mono ?_; rintro e w1 ⟨rfl, rfl⟩; refine Stop.of ?_)
    refine Stop.go ?_
    go_wp2
    refine ⟨fun _ => HS.out _ hbA, ?_⟩
    refine AnyT.takeD (i := 4) (v := .int .i64 x) rfl rfl (by kernel_rfl) (by kernel_rfl) (by kernel_rfl) (by first | exact (fun _ _ _ h => h) | exact (fun _ _ _ h => absurd h.1 (by simp))) (by kernel_rfl) (by rfl) (by rintro w' y1; go_simp) (HS.out _ hbA) ?_; go_frame
    refine AnyT.takeD (i := 5) (v := .int .i64 HX) rfl rfl (by kernel_rfl) (by kernel_rfl) (by kernel_rfl) (by first | exact (fun _ _ _ h => h) | exact (fun _ _ _ h => absurd h.1 (by simp))) (by kernel_rfl) (by rfl) (by rintro w' y1; go_simp) (HS.out _ hbA) ?_; go_frame
    refine AnyT.takeD (i := 8) (v := .int .i64 R) rfl rfl (by kernel_rfl) (by kernel_rfl) (by kernel_rfl) (by first | exact (fun _ _ _ h => h) | exact (fun _ _ _ h => absurd h.1 (by simp))) (by kernel_rfl) (by rfl) (by rintro w' y1; go_simp) (HS.out _ hbA) ?_; go_frame
    refine AnyT.takeD (i := 10) (v := .agg #[.int .i64 R, .int .u64 r]) rfl rfl (by kernel_rfl) (by kernel_rfl) (by kernel_rfl) (by first | exact (fun _ _ _ h => h) | exact (fun _ _ _ h => absurd h.1 (by simp))) (by kernel_rfl) (by rfl) (by rintro w' y1; go_simp) (HS.out _ hbA) ?_; go_frame
    refine AnyT.next (i := 12) (by kernel_rfl) rfl (wpOp_of_list rfl ?_)
    have hbF : Below wa.heap.size wa (wd.alloc (.cells #[.int .i64 R, .int .u64 r] 103)) := hbd.alloc hbd.size _
    have HBF := hid hbF
    have HR2 := hid (HR.out _ hbF)
    have HQ := hid (show ∀ Y, Below (wd.alloc (.cells #[.int .i64 R, .int .u64 r] 103)).heap.size (wd.alloc (.cells #[.int .i64 R, .int .u64 r] 103)) Y → Y.cell? ⟨wd.heap.size, 0, none⟩ = some (.int .i64 R) ∧ Y.cell? ⟨wd.heap.size, 1, none⟩ = some (.int .u64 r) from fun Y hY => by
      have h1 := (hY.block wd.heap.size (by simp)).trans (World.alloc_heap_new wd _)
      exact ⟨by simp [World.cell?, h1], by simp [World.cell?, h1]⟩)
    clear hbA
    go_wp2
    refine ⟨fun _ => HS.out _ HBF.out, ?_⟩
    refine AnyT.done (by kernel_rfl) ?_ _
    clear hbF hbd
    obtain ⟨wz, hwz⟩ : ∃ wz, wz = wd.alloc (.cells #[.int .i64 R, .int .u64 r] 103) := ⟨_, rfl⟩
    rw [← hwz] at HBF HR2 HQ ⊢
    clear hwz
    obtain ⟨c0, c1, f0, f1, hlt⟩ := HR2.out
    obtain ⟨d0, d1⟩ := HQ.out wz (Below.refl _ _)
    by_cases hn0 : n < 0
    · have hnb : decide (n < 0) = true := by simp [hn0]
      go_wp2_with (go_at_call 157; refine (HO.out wz).mono ?_; rintro e w2 ⟨rfl, hb2⟩; refine Stop.of ?_)
      refine Stop.go ?_
      have HB2 := hid (chain HBF.out hb2)
      obtain ⟨c0, c1, f0, f1, hlt⟩ := HR.out _ HB2.out
      have HFI := hid (HFIN.out _ HB2.out)
      have hwz := (show wideV (-(P : Int)) = .agg #[.int .i64 ((-(P : Int)) / 18446744073709551616), .int .u64 ((-(P : Int)) % 18446744073709551616)] from rfl)
      obtain ⟨z1, hz1⟩ : ∃ z, z = (-(P : Int)) / 18446744073709551616 := ⟨_, rfl⟩
      obtain ⟨z2, hz2⟩ : ∃ z, z = (-(P : Int)) % 18446744073709551616 := ⟨_, rfl⟩
      rw [← hz1, ← hz2] at hwz
      have HWZ := hid hwz
      rw [hwz]
      clear hwz hb2 HFIN hz1 hz2
      go_wp2
      refine bodyPost_ret (v := .agg #[.int .i64 z1, .int .u64 z2]) ?_ rfl ⟨by first | rw [HWZ.out] | rw [if_pos (by omega), HWZ.out], HFI.out _ _⟩
      simp [results, Try.results142, go_sem, c0, c1, f0, f1, hlt]
    · have hnb : decide (n < 0) = false := by simp [hn0]
      have HFI := hid (HFIN.out _ HBF.out)
      clear HFIN
      go_wp2
      refine bodyPost_ret (v := .agg #[.int .i64 R, .int .u64 r]) ?_ rfl ⟨by first | rw [HWP.out] | rw [if_neg (by omega), HWP.out], HFI.out _ _⟩
      simp [results, Try.results142, go_sem, c0, c1, f0, f1, hlt]

set_option maxRecDepth 100000 in
set_option maxHeartbeats 1000000 in
/-- Times -/
theorem wtimes_c (w : World) (V n : Int) (hV : -170141183460469231731687303715884105728 < V ∧ V < 170141183460469231731687303715884105728) (hn : -9223372036854775808 < n ∧ n ≤ 9223372036854775807) (hP : (V.natAbs * n.natAbs : Nat) < 170141183460469231731687303715884105728) :
    Calls Try.prog 142 #[wideV V, .int .i64 n] w fun e w' => e = .returned (wideV (V * n)) ∧ Below w.heap.size w w' := by
  by_cases h0 : 0 ≤ V
  · refine wtimes0_c w V n h0 hV.2 hn ?_
    rw [show V = ((V.natAbs : Nat) : Int) by omega, ← Int.natCast_mul]
    omega
  · have HT := hid (fun X => wtimes0_c X (-V) n (by omega) (by omega) hn (by
      rw [show -V = ((V.natAbs : Nat) : Int) by omega, ← Int.natCast_mul]
      omega))
    have HO1 := hid (fun X => wopp_c X V hV)
    have hbn : -170141183460469231731687303715884105728 < -V * n ∧ -V * n < 170141183460469231731687303715884105728 := by
      have e : (-V * n).natAbs = V.natAbs * n.natAbs := by rw [Int.natAbs_mul, Int.natAbs_neg]
      rw [← e] at hP
      omega
    have HO2 := hid (fun X => wopp_c X (-V * n) hbn)
    have hve : - (-V * n) = V * n := by rw [Int.neg_mul, Int.neg_neg]
    rw [hve] at HO2
    obtain ⟨Z, hZ⟩ : ∃ Z, Z = V * n := ⟨_, rfl⟩
    obtain ⟨Y, hY⟩ : ∃ Z, Z = -V * n := ⟨_, rfl⟩
    rw [← hZ] at HO2 ⊢
    rw [← hY] at HT HO2
    obtain ⟨a, ha⟩ : ∃ a, a = V / 18446744073709551616 := ⟨_, rfl⟩
    obtain ⟨l, hl⟩ : ∃ a, a = V % 18446744073709551616 := ⟨_, rfl⟩
    have hw0 : wideV V = .agg #[.int .i64 a, .int .u64 l] := by unfold wideV; rw [← ha, ← hl]
    have hwz : wideV Z = .agg #[.int .i64 (Z / 18446744073709551616), .int .u64 (Z % 18446744073709551616)] := rfl
    obtain ⟨z1, hz1⟩ : ∃ z, z = Z / 18446744073709551616 := ⟨_, rfl⟩
    obtain ⟨z2, hz2⟩ : ∃ z, z = Z % 18446744073709551616 := ⟨_, rfl⟩
    rw [← hz1, ← hz2] at hwz
    rw [hw0] at HO1 ⊢
    rw [hwz] at HO2 ⊢
    have haN : a < 0 := by omega
    obtain ⟨s, hs⟩ : ∃ s, s = w.heap.size := ⟨_, rfl⟩
    obtain ⟨wa, hwa⟩ : ∃ wa, wa = (w.alloc (.cells #[.int .i64 a, .int .u64 l] 103)).alloc (.cells #[.int .i64 0, .int .u64 0] 103) := ⟨_, rfl⟩
    have hba : Below w.heap.size w wa := by rw [hwa]; exact ((Below.refl _ _).alloc (Nat.le_refl _) _).alloc (by simp) _
    have q0 : wa.heap[s + 1]? = some (.cells #[.int .i64 0, .int .u64 0] 103 (0, 0)) := by
      have := World.alloc_heap_new (w.alloc (.cells #[.int .i64 a, .int .u64 l] 103)) (.cells #[.int .i64 0, .int .u64 0] 103)
      rw [hwa, hs]
      simpa using this
    have hs1 : s + 1 < wa.heap.size := (Array.getElem?_eq_some_iff.1 q0).1
    have c00 : wa.cell? ⟨s, 0, none⟩ = some (.int .i64 a) := by rw [hwa, hs, World.cell?_alloc_past _ _ _ (by simp), World.cell?_alloc_at _ _ _ _ rfl]; rfl
    have c01 : wa.cell? ⟨s, 1, none⟩ = some (.int .u64 l) := by rw [hwa, hs, World.cell?_alloc_past _ _ _ (by simp), World.cell?_alloc_at _ _ _ _ rfl]; rfl
    have HR := hid (fun (Y : World) (hY : Below wa.heap.size wa Y) => show Y.cell? ⟨s + 1, 0, none⟩ = some (.int .i64 0) ∧ Y.cell? ⟨s + 1, 1, none⟩ = some (.int .u64 0) ∧ Y.frozen? ⟨s + 1, 0, none⟩ = false ∧ Y.frozen? ⟨s + 1, 1, none⟩ = false ∧ s + 1 < Y.heap.size from by
      have h1 := (hY.block (s + 1) hs1).trans q0
      exact ⟨by simp [World.cell?, h1], by simp [World.cell?, h1], by simp [World.frozen?, h1], by simp [World.frozen?, h1], (Array.getElem?_eq_some_iff.1 h1).1⟩)
    have HFIN := hid (fun (Y : World) (hY : Below wa.heap.size wa Y) (u v : Value) => show Below w.heap.size w ((Y.setCell ⟨s + 1, 0, none⟩ u).setCell ⟨s + 1, 1, none⟩ v) from
      below_set (below_set (chain hba hY) (by omega) 0 u) (by omega) 1 v)
    clear hV hn hP h0 hbn hve hZ hY ha hl hw0 hwz hz1 hz2 q0 hs1 hba
    go_enter Try.func142, Try.ntmps142
    go_wp2_with fail
    rw [← hs, ← hwa]
    clear hs hwa
    go_wp2_with (go_at_call 157; refine (HO1.out _).mono ?_; rintro e w1 ⟨rfl, hb1⟩; refine Stop.of ?_)
    refine Stop.go ?_
    have HB1 := hid hb1
    clear hb1
    go_wp2_with (go_at_call 142; refine (HT.out _).mono ?_; rintro e w2 ⟨rfl, hb2⟩; refine Stop.of ?_)
    refine Stop.go ?_
    have HB2 := hid (chain HB1.out hb2)
    clear hb2
    go_wp2_with (go_at_call 157; refine (HO2.out _).mono ?_; rintro e w3 ⟨rfl, hb3⟩; refine Stop.of ?_)
    refine Stop.go ?_
    have hb := chain HB2.out hb3
    obtain ⟨c0, c1, f0, f1, hlt⟩ := HR.out _ hb
    have HFI := hid (HFIN.out _ hb)
    clear hb hb3 HFIN
    go_wp2
    refine bodyPost_ret (v := .agg #[.int .i64 z1, .int .u64 z2]) ?_ rfl ⟨rfl, HFI.out _ _⟩
    simp [results, Try.results142, go_sem, c0, c1, f0, f1, hlt]
end

section
open Go.RowKit Go.Lib
set_option linter.unusedVariables false

/-- below 2^127, without its sign -/
def B127 (V : Int) : Prop := -170141183460469231731687303715884105728 < V ∧ V < 170141183460469231731687303715884105728
/-- the two words of a number -/
def WP (V a b : Int) : Prop := a = V / 18446744073709551616 ∧ b = V % 18446744073709551616
theorem WP.ex (V : Int) : ∃ a b, WP V a b := ⟨_, _, rfl, rfl⟩
theorem WP.val {V a b : Int} (h : WP V a b) : wideV V = .agg #[.int .i64 a, .int .u64 b] := by rw [h.1, h.2]; rfl
theorem WP.sum {V U a b c d : Int} (h : WP V a b) (k : WP U c d) : sumV V U = .agg #[.int .i64 a, .int .u64 b, .int .i64 c, .int .u64 d] := by rw [h.1, h.2, k.1, k.2]; rfl

set_option maxRecDepth 100000 in
set_option maxHeartbeats 1000000 in
theorem splus_c (w : World) (n d N D t : Int) (hn : B127 n) (hd : B127 d) (hD : -9223372036854775808 < D ∧ D ≤ 9223372036854775807) (hNt : -9223372036854775808 < N * t ∧ N * t ≤ 9223372036854775807)
    (h1 : B127 (n * D)) (h2 : B127 (d * (N * t))) (h3 : B127 (n * D + d * (N * t))) (h4 : B127 (d * D)) :
    Calls Try.prog 103 #[sumV n d, ratV (N, D), .int .i64 t] w fun e w' => e = .returned (sumV (n * D + d * (N * t)) (d * D)) ∧ Below w.heap.size w w' := by
  have nb : ∀ a b : Int, B127 (a * b) → (a.natAbs * b.natAbs : Nat) < 170141183460469231731687303715884105728 := fun a b h => by
    rw [← Int.natAbs_mul]; unfold B127 at h; omega
  have HT1 := hid (fun X => wtimes_c X n D hn hD (nb _ _ h1))
  have HT2 := hid (fun X => wtimes_c X d (N * t) hd hNt (nb _ _ h2))
  have HT3 := hid (fun X => wtimes_c X d D hd hD (nb _ _ h4))
  have HPL := hid (fun X => wplus_c X (n * D) (d * (N * t)) (by unfold B127 at h3; omega) (by unfold B127 at h1; omega) (by unfold B127 at h2; omega))
  have hnt : IntKind.i64.wrap (N * t) = N * t := IntWalk.i64_in _ (by omega)
  obtain ⟨n1, n2, pn⟩ := WP.ex n
  obtain ⟨d1, d2, pd⟩ := WP.ex d
  obtain ⟨a1, a2, pA⟩ := WP.ex (n * D)
  obtain ⟨b1, b2, pB⟩ := WP.ex (d * (N * t))
  obtain ⟨s1, s2, pS⟩ := WP.ex (n * D + d * (N * t))
  obtain ⟨c1, c2, pC⟩ := WP.ex (d * D)
  rw [pn.val, pA.val] at HT1
  rw [pd.val, pB.val] at HT2
  rw [pd.val, pC.val] at HT3
  rw [pA.val, pB.val, pS.val] at HPL
  rw [pn.sum pd, pS.sum pC]
  obtain ⟨m, hm⟩ : ∃ m, m = N * t := ⟨_, rfl⟩
  rw [← hm] at HT2
  have hmul : IntKind.i64.wrap (N * t) = m := by rw [hnt, hm]
  clear hnt hm nb hn hd hD hNt h1 h2 h3 h4 pn pd pA pB pS pC
  obtain ⟨s, hs⟩ : ∃ s, s = w.heap.size := ⟨_, rfl⟩
  obtain ⟨wa, hwa⟩ : ∃ wa, wa = ((w.alloc (.cells #[.int .i64 n1, .int .u64 n2, .int .i64 d1, .int .u64 d2] 105)).alloc (.cells #[.int .i64 N, .int .i64 D] 46)).alloc (.cells #[.int .i64 0, .int .u64 0, .int .i64 0, .int .u64 0] 105) := ⟨_, rfl⟩
  have hba : Below w.heap.size w wa := by rw [hwa]; exact (((Below.refl _ _).alloc (Nat.le_refl _) _).alloc (by simp) _).alloc (by simp; omega) _
  have q0 : wa.heap[s + 2]? = some (.cells #[.int .i64 0, .int .u64 0, .int .i64 0, .int .u64 0] 105 (0, 0)) := by
    have := World.alloc_heap_new ((w.alloc (.cells #[.int .i64 n1, .int .u64 n2, .int .i64 d1, .int .u64 d2] 105)).alloc (.cells #[.int .i64 N, .int .i64 D] 46)) (.cells #[.int .i64 0, .int .u64 0, .int .i64 0, .int .u64 0] 105)
    rw [hwa, hs]
    simpa using this
  have hs1 : s + 2 < wa.heap.size := (Array.getElem?_eq_some_iff.1 q0).1
  have hc : ∀ o v, (#[Value.int .i64 n1, .int .u64 n2, .int .i64 d1, .int .u64 d2] : Array Value)[o]? = some v → wa.cell? ⟨s, o, none⟩ = some v := fun o v h => by
    rw [hwa, hs, World.cell?_alloc_past _ _ _ (by simp; omega), World.cell?_alloc_past _ _ _ (by simp), World.cell?_alloc_at _ _ _ _ rfl]; exact h
  have hc2 : ∀ o v, (#[Value.int .i64 N, .int .i64 D] : Array Value)[o]? = some v → wa.cell? ⟨s + 1, o, none⟩ = some v := fun o v h => by
    rw [hwa, hs, World.cell?_alloc_past _ _ _ (by simp), World.cell?_alloc_at _ _ _ _ (by simp)]; exact h
  have HS := hid (fun (Y : World) (hY : Below wa.heap.size wa Y) => show Y.cell? ⟨s, 0, none⟩ = some (.int .i64 n1) ∧ Y.cell? ⟨s, 1, none⟩ = some (.int .u64 n2) ∧ Y.cell? ⟨s, 2, none⟩ = some (.int .i64 d1) ∧ Y.cell? ⟨s, 3, none⟩ = some (.int .u64 d2) ∧ Y.cell? ⟨s + 1, 0, none⟩ = some (.int .i64 N) ∧ Y.cell? ⟨s + 1, 1, none⟩ = some (.int .i64 D) from by
    have k0 : ∀ o, Y.cell? ⟨s, o, none⟩ = wa.cell? ⟨s, o, none⟩ := fun o => hY.cell (p := ⟨s, o, none⟩) (by show s < _; omega)
    have k1 : ∀ o, Y.cell? ⟨s + 1, o, none⟩ = wa.cell? ⟨s + 1, o, none⟩ := fun o => hY.cell (p := ⟨s + 1, o, none⟩) (by show s + 1 < _; omega)
    exact ⟨(k0 0).trans (hc 0 _ rfl), (k0 1).trans (hc 1 _ rfl), (k0 2).trans (hc 2 _ rfl), (k0 3).trans (hc 3 _ rfl), (k1 0).trans (hc2 0 _ rfl), (k1 1).trans (hc2 1 _ rfl)⟩)
  have HR := hid (fun (Y : World) (hY : Below wa.heap.size wa Y) => show Y.cell? ⟨s + 2, 0, none⟩ = some (.int .i64 0) ∧ Y.cell? ⟨s + 2, 1, none⟩ = some (.int .u64 0) ∧ Y.cell? ⟨s + 2, 2, none⟩ = some (.int .i64 0) ∧ Y.cell? ⟨s + 2, 3, none⟩ = some (.int .u64 0) ∧ (∀ o, Y.frozen? ⟨s + 2, o, none⟩ = false) ∧ s + 2 < Y.heap.size from by
    have h1 := (hY.block (s + 2) hs1).trans q0
    exact ⟨by simp [World.cell?, h1], by simp [World.cell?, h1], by simp [World.cell?, h1], by simp [World.cell?, h1], fun o => by simp [World.frozen?, h1], (Array.getElem?_eq_some_iff.1 h1).1⟩)
  have HFIN := hid (fun (Y : World) (hY : Below wa.heap.size wa Y) (u v x z : Value) => show Below w.heap.size w ((((Y.setCell ⟨s + 2, 0, none⟩ u).setCell ⟨s + 2, 1, none⟩ v).setCell ⟨s + 2, 2, none⟩ x).setCell ⟨s + 2, 3, none⟩ z) from
    below_set (below_set (below_set (below_set (chain hba hY) (by omega) 0 u) (by omega) 1 v) (by omega) 2 x) (by omega) 3 z)
  have HFA := hid (fun (Y : World) (hY : Below wa.heap.size wa Y) (u v x z : Value) => show Below wa.heap.size wa wa ∧ ∀ o : Nat, True from ⟨Below.refl _ _, fun _ => trivial⟩)
  clear hba q0 hs1 hc hc2 HFA
  go_enter Try.func103, Try.ntmps103
  simp only [ratV]
  go_wp2_with fail
  rw [← hs, ← hwa]
  clear hs hwa
  refine plain_region (fun j' X => decide (j' ≤ 18) = true → X.cell? ⟨s, 0, none⟩ = some (.int .i64 n1) ∧ X.cell? ⟨s, 1, none⟩ = some (.int .u64 n2) ∧ X.cell? ⟨s, 2, none⟩ = some (.int .i64 d1) ∧ X.cell? ⟨s, 3, none⟩ = some (.int .u64 d2) ∧ X.cell? ⟨s + 1, 0, none⟩ = some (.int .i64 N) ∧ X.cell? ⟨s + 1, 1, none⟩ = some (.int .i64 D)) (by kernel_rfl) ?_
  have hbd : Below wa.heap.size wa wa.drew := (Below.refl _ _).drew
  generalize wa.drew = wd at hbd ⊢
  refine AnyT.takeD (i := 0) (v := .pointer (some ⟨s, 0, none⟩)) rfl rfl (by kernel_rfl) (by kernel_rfl) (by kernel_rfl) (by first | exact (fun _ _ _ h => h) | exact (fun _ _ _ h => absurd h.1 (by simp))) (by kernel_rfl) (by rfl) (by rintro w' ⟨y1, y2, y3, y4, y5, y6⟩; go_simp) (HS.out _ hbd) ?_; go_frame
  refine AnyT.takeD (i := 1) (v := .agg #[.int .i64 n1, .int .u64 n2]) rfl rfl (by kernel_rfl) (by kernel_rfl) (by kernel_rfl) (by first | exact (fun _ _ _ h => h) | exact (fun _ _ _ h => absurd h.1 (by simp))) (by kernel_rfl) (by rfl) (by rintro w' ⟨y1, y2, y3, y4, y5, y6⟩; go_simp) (HS.out _ hbd) ?_; go_frame
  refine AnyT.takeD (i := 2) (v := .pointer (some ⟨s + 1, 1, none⟩)) rfl rfl (by kernel_rfl) (by kernel_rfl) (by kernel_rfl) (by first | exact (fun _ _ _ h => h) | exact (fun _ _ _ h => absurd h.1 (by simp))) (by kernel_rfl) (by rfl) (by rintro w' ⟨y1, y2, y3, y4, y5, y6⟩; go_simp) (HS.out _ hbd) ?_; go_frame
  refine AnyT.takeD (i := 3) (v := .int .i64 D) rfl rfl (by kernel_rfl) (by kernel_rfl) (by kernel_rfl) (by first | exact (fun _ _ _ h => h) | exact (fun _ _ _ h => absurd h.1 (by simp))) (by kernel_rfl) (by rfl) (by rintro w' ⟨y1, y2, y3, y4, y5, y6⟩; go_simp) (HS.out _ hbd) ?_; go_frame
  refine AnyT.takeD (i := 5) (v := .pointer (some ⟨s, 2, none⟩)) rfl rfl (by kernel_rfl) (by kernel_rfl) (by kernel_rfl) (by first | exact (fun _ _ _ h => h) | exact (fun _ _ _ h => absurd h.1 (by simp))) (by kernel_rfl) (by rfl) (by rintro w' ⟨y1, y2, y3, y4, y5, y6⟩; go_simp) (HS.out _ hbd) ?_; go_frame
  refine AnyT.takeD (i := 6) (v := .agg #[.int .i64 d1, .int .u64 d2]) rfl rfl (by kernel_rfl) (by kernel_rfl) (by kernel_rfl) (by first | exact (fun _ _ _ h => h) | exact (fun _ _ _ h => absurd h.1 (by simp))) (by kernel_rfl) (by rfl) (by rintro w' ⟨y1, y2, y3, y4, y5, y6⟩; go_simp) (HS.out _ hbd) ?_; go_frame
  refine AnyT.takeD (i := 7) (v := .pointer (some ⟨s + 1, 0, none⟩)) rfl rfl (by kernel_rfl) (by kernel_rfl) (by kernel_rfl) (by first | exact (fun _ _ _ h => h) | exact (fun _ _ _ h => absurd h.1 (by simp))) (by kernel_rfl) (by rfl) (by rintro w' ⟨y1, y2, y3, y4, y5, y6⟩; go_simp) (HS.out _ hbd) ?_; go_frame
  refine AnyT.takeD (i := 8) (v := .int .i64 N) rfl rfl (by kernel_rfl) (by kernel_rfl) (by kernel_rfl) (by first | exact (fun _ _ _ h => h) | exact (fun _ _ _ h => absurd h.1 (by simp))) (by kernel_rfl) (by rfl) (by rintro w' ⟨y1, y2, y3, y4, y5, y6⟩; go_simp) (HS.out _ hbd) ?_; go_frame
  refine AnyT.takeD (i := 9) (v := .int .i64 t) rfl rfl (by kernel_rfl) (by kernel_rfl) (by kernel_rfl) (by first | exact (fun _ _ _ h => h) | exact (fun _ _ _ h => absurd h.1 (by simp))) (by kernel_rfl) (by rfl) (by rintro w' ⟨y1, y2, y3, y4, y5, y6⟩; go_simp) (HS.out _ hbd) ?_; go_frame
  refine AnyT.takeD (i := 10) (v := .int .i64 m) rfl rfl (by kernel_rfl) (by kernel_rfl) (by kernel_rfl) (by first | exact (fun _ _ _ h => h) | exact (fun _ _ _ h => absurd h.1 (by simp))) (by kernel_rfl) (by rfl) (by rintro w' ⟨y1, y2, y3, y4, y5, y6⟩; go_simp) (HS.out _ hbd) ?_; go_frame
  refine AnyT.takeD (i := 13) (v := .pointer (some ⟨s, 2, none⟩)) rfl rfl (by kernel_rfl) (by kernel_rfl) (by kernel_rfl) (by first | exact (fun _ _ _ h => h) | exact (fun _ _ _ h => absurd h.1 (by simp))) (by kernel_rfl) (by rfl) (by rintro w' ⟨y1, y2, y3, y4, y5, y6⟩; go_simp) (HS.out _ hbd) ?_; go_frame
  refine AnyT.takeD (i := 14) (v := .agg #[.int .i64 d1, .int .u64 d2]) rfl rfl (by kernel_rfl) (by kernel_rfl) (by kernel_rfl) (by first | exact (fun _ _ _ h => h) | exact (fun _ _ _ h => absurd h.1 (by simp))) (by kernel_rfl) (by rfl) (by rintro w' ⟨y1, y2, y3, y4, y5, y6⟩; go_simp) (HS.out _ hbd) ?_; go_frame
  refine AnyT.takeD (i := 15) (v := .pointer (some ⟨s + 1, 1, none⟩)) rfl rfl (by kernel_rfl) (by kernel_rfl) (by kernel_rfl) (by first | exact (fun _ _ _ h => h) | exact (fun _ _ _ h => absurd h.1 (by simp))) (by kernel_rfl) (by rfl) (by rintro w' ⟨y1, y2, y3, y4, y5, y6⟩; go_simp) (HS.out _ hbd) ?_; go_frame
  refine AnyT.takeD (i := 16) (v := .int .i64 D) rfl rfl (by kernel_rfl) (by kernel_rfl) (by kernel_rfl) (by first | exact (fun _ _ _ h => h) | exact (fun _ _ _ h => absurd h.1 (by simp))) (by kernel_rfl) (by rfl) (by rintro w' ⟨y1, y2, y3, y4, y5, y6⟩; go_simp) (HS.out _ hbd) ?_; go_frame
  refine AnyT.next (i := 4) (by kernel_rfl) rfl (wpOp_of_list rfl ?_)
  go_wp2_with (go_at_call 142; refine (HT1.out _).mono ?_; rintro e w1 ⟨rfl, hbw1⟩; refine Stop.of ?_)
  refine Stop.go ?_
  have HB1 := hid (chain hbd hbw1)
  clear hbw1
  go_wp2
  refine ⟨fun _ => HS.out _ HB1.out, ?_⟩
  refine AnyT.next (i := 11) (by kernel_rfl) rfl (wpOp_of_list rfl ?_)
  go_wp2_with (go_at_call 142; refine (HT2.out _).mono ?_; rintro e w2 ⟨rfl, hbw2⟩; refine Stop.of ?_)
  refine Stop.go ?_
  have HB2 := hid (chain HB1.out hbw2)
  clear hbw2
  go_wp2
  refine ⟨fun _ => HS.out _ HB2.out, ?_⟩
  refine AnyT.next (i := 12) (by kernel_rfl) rfl (wpOp_of_list rfl ?_)
  go_wp2_with (go_at_call 143; refine (HPL.out _).mono ?_; rintro e w3 ⟨rfl, hbw3⟩; refine Stop.of ?_)
  refine Stop.go ?_
  have HB3 := hid (chain HB2.out hbw3)
  clear hbw3
  go_wp2
  refine ⟨fun _ => HS.out _ HB3.out, ?_⟩
  refine AnyT.next (i := 17) (by kernel_rfl) rfl (wpOp_of_list rfl ?_)
  go_wp2_with (go_at_call 142; refine (HT3.out _).mono ?_; rintro e w4 ⟨rfl, hbw4⟩; refine Stop.of ?_)
  refine Stop.go ?_
  have HB4 := hid (chain HB3.out hbw4)
  clear hbw4
  go_wp2
  refine ⟨fun _ => HS.out _ HB4.out, ?_⟩
  refine AnyT.next (i := 18) (by kernel_rfl) rfl (wpOp_of_list rfl ?_)
  go_wp2
  refine ⟨fun _ => HS.out _ HB4.out, ?_⟩
  refine AnyT.next (i := 19) (by kernel_rfl) rfl (wpOp_of_list rfl ?_)
  obtain ⟨c00, c01, c02, c03, hfz, hlt⟩ := HR.out _ HB4.out
  have f0 := hfz 0
  have f1 := hfz 1
  have f2 := hfz 2
  have f3 := hfz 3
  have HFI := hid (HFIN.out _ HB4.out)
  clear HFIN hfz
  go_wp2
  refine ⟨fun h => absurd h (by decide), ?_⟩
  refine AnyT.done (by kernel_rfl) ?_ _
  go_wp2
  refine bodyPost_ret (v := .agg #[.int .i64 s1, .int .u64 s2, .int .i64 c1, .int .u64 c2]) ?_ rfl ⟨rfl, HFI.out _ _ _ _⟩
  simp [results, Try.results103, go_sem, c00, c01, c02, c03, f0, f1, f2, f3, hlt]

/-- Compare -/
theorem scompare_c (w : World) (n d y : Int) (hd : B127 d) (hy : -9223372036854775808 < y ∧ y ≤ 9223372036854775807) (h1 : B127 (d * y)) :
    Calls Try.prog 104 #[sumV n d, .int .i64 y] w fun e w' => e = .returned (.int .i64 (cmpI n (d * y))) ∧ Below w.heap.size w w' := by
  have HT := hid (fun X => wtimes_c X d y hd hy (by rw [← Int.natAbs_mul]; unfold B127 at h1; omega))
  have HC := hid (fun X => wcompare_c X n (d * y))
  obtain ⟨n1, n2, pn⟩ := WP.ex n
  obtain ⟨d1, d2, pd⟩ := WP.ex d
  obtain ⟨a1, a2, pA⟩ := WP.ex (d * y)
  rw [pd.val, pA.val] at HT
  rw [pn.val, pA.val] at HC
  rw [pn.sum pd]
  obtain ⟨c, hc⟩ : ∃ c, c = cmpI n (d * y) := ⟨_, rfl⟩
  rw [← hc] at HC ⊢
  clear hc hd hy h1 pn pd pA
  obtain ⟨wz, hwz⟩ : ∃ wz, wz = w.alloc (.cells #[.int .i64 n1, .int .u64 n2, .int .i64 d1, .int .u64 d2] 105) := ⟨_, rfl⟩
  have hbz : Below w.heap.size w wz := by rw [hwz]; exact (Below.refl _ _).alloc (Nat.le_refl _) _
  have hsz : w.heap.size < wz.heap.size := by rw [hwz]; simp
  have hcl : ∀ o v, (#[Value.int .i64 n1, .int .u64 n2, .int .i64 d1, .int .u64 d2] : Array Value)[o]? = some v → wz.cell? ⟨w.heap.size, o, none⟩ = some v := fun o v h => by
    rw [hwz, World.cell?_alloc_at _ _ _ _ rfl]; exact h
  have l0 := lift_cell hsz (hcl 0 _ rfl)
  have l1 := lift_cell hsz (hcl 1 _ rfl)
  have l2 := lift_cell hsz (hcl 2 _ rfl)
  have l3 := lift_cell hsz (hcl 3 _ rfl)
  have HBZ := hid hbz
  clear hbz hsz hcl
  go_enter Try.func104, Try.ntmps104
  go_wp2_with fail
  rw [← hwz]
  clear hwz
  refine region_lift (by kernel_rfl) (by kernel_rfl) ?_
  repeat (go_big_quiet_step (first
    | (go_at_call 142; exact lift_calls (HT.out _))
    | (go_at_call 135; exact lift_calls (HC.out _))))
  refine wpQuiet_nil ?_
  rintro _ ⟨X, rfl⟩
  have hfin := chain HBZ.out (lift_below wz X)
  go_wp2
  go_ret
  exact ⟨rfl, hfin⟩
end

section
open Go.RowKit Go.Lib
set_option linter.unusedVariables false

/-- whether a fraction is valid -/
def validR (r : Rt) : Bool := decide (1 ≤ r.2) && (decide (r.2 ≤ 400) && (decide (-10000000000 ≤ r.1) && (decide (r.1 ≤ 10000000000) && decide (Int.gcd r.1 r.2 = 1))))
theorem validR_iff {r : Rt} : validR r = true ↔ 1 ≤ r.2 ∧ r.2 ≤ 400 ∧ -10000000000 ≤ r.1 ∧ r.1 ≤ 10000000000 ∧ Int.gcd r.1 r.2 = 1 := by
  unfold validR; simp only [Bool.and_eq_true, decide_eq_true_eq]

set_option maxRecDepth 100000 in
theorem fvalid_c (w : World) (N D : Int) : Calls Try.prog 141 #[.agg #[.int .i64 N, .int .i64 D]] w fun e w' => e = .returned (.bool (validR (N, D))) ∧ Below w.heap.size w w' := by
  obtain ⟨wz, hwz⟩ : ∃ wz, wz = w.alloc (.cells #[.int .i64 N, .int .i64 D] 46) := ⟨_, rfl⟩
  have hbz : Below w.heap.size w wz := by rw [hwz]; exact (Below.refl _ _).alloc (Nat.le_refl _) _
  have l0 : wz.cell? ⟨w.heap.size, 0, none⟩ = some (.int .i64 N) := by rw [hwz, World.cell?_alloc_at _ _ _ _ rfl]; rfl
  have l1 : wz.cell? ⟨w.heap.size, 1, none⟩ = some (.int .i64 D) := by rw [hwz, World.cell?_alloc_at _ _ _ _ rfl]; rfl
  have HBZ := hid hbz
  have HV := hid (show validR (N, D) = (decide (1 ≤ D) && (decide (D ≤ 400) && (decide (-10000000000 ≤ N) && (decide (N ≤ 10000000000) && decide (Int.gcd N D = 1))))) from rfl)
  clear hbz
  by_cases h1 : 1 ≤ D
  · by_cases h2 : D ≤ 400
    · by_cases h3 : -10000000000 ≤ N
      · by_cases h4 : N ≤ 10000000000
        · have HD := hid (fun X => divisor_c X N D (by omega) (by omega))
          obtain ⟨g, hg⟩ : ∃ g : Int, g = ((Int.gcd N D : Nat) : Int) := ⟨_, rfl⟩
          rw [← hg] at HD
          have HB := hid (show validR (N, D) = (g == 1) from by
            rw [HV.out, decide_eq_true h1, decide_eq_true h2, decide_eq_true h3, decide_eq_true h4]
            simp only [Bool.true_and]
            rw [Bool.eq_iff_iff, decide_eq_true_iff]
            simp only [beq_iff_eq]
            omega)
          have d1 : decide (1 ≤ D) = true := by simp; omega
          have d2 : decide (D ≤ 400) = true := by simp; omega
          have d3 : decide (-10000000000 ≤ N) = true := by simp; omega
          have d4 : decide (N ≤ 10000000000) = true := by simp; omega
          clear hg HV
          go_enter Try.func141, Try.ntmps141
          go_wp2_with fail
          rw [← hwz]
          clear hwz
          go_wp2_with (go_at_call 76; refine (HD.out _).mono ?_; rintro e w2 ⟨rfl, k2, rfl⟩; refine Stop.of ?_)
          refine Stop.go ?_
          go_wp2
          go_ret
          exact ⟨ret_bool (by rw [HB.out]), below_drewN HBZ.out k2⟩
        · have HB := hid (show validR (N, D) = false from by rw [HV.out, decide_eq_false h4]; simp)
          have d4 : decide (N ≤ 10000000000) = false := by simp; omega
          clear HV
          go_enter Try.func141, Try.ntmps141
          go_wp2_with fail
          rw [← hwz]
          clear hwz
          go_wp2
          go_ret
          exact ⟨ret_bool (by rw [HB.out]), HBZ.out⟩
      · have HB := hid (show validR (N, D) = false from by rw [HV.out, decide_eq_false h3]; simp)
        have d3 : decide (-10000000000 ≤ N) = false := by simp; omega
        clear HV
        go_enter Try.func141, Try.ntmps141
        go_wp2_with fail
        rw [← hwz]
        clear hwz
        go_wp2
        go_ret
        exact ⟨ret_bool (by rw [HB.out]), HBZ.out⟩
    · have HB := hid (show validR (N, D) = false from by rw [HV.out, decide_eq_false h2]; simp)
      have d2 : decide (D ≤ 400) = false := by simp; omega
      clear HV
      go_enter Try.func141, Try.ntmps141
      go_wp2_with fail
      rw [← hwz]
      clear hwz
      go_wp2
      go_ret
      exact ⟨ret_bool (by rw [HB.out]), HBZ.out⟩
  · have HB := hid (show validR (N, D) = false from by rw [HV.out, decide_eq_false h1]; simp)
    have d1 : decide (1 ≤ D) = false := by simp; omega
    clear HV
    go_enter Try.func141, Try.ntmps141
    go_wp2_with fail
    rw [← hwz]
    clear hwz
    go_wp2
    go_ret
    exact ⟨ret_bool (by rw [HB.out]), HBZ.out⟩

theorem linvalid_c (w : World) (N D : Int) : Calls Try.prog 101 #[.agg #[.int .i64 N, .int .i64 D]] w fun e w' => e = .returned (.bool (!validR (N, D))) ∧ Below w.heap.size w w' := by
  obtain ⟨wz, hwz⟩ : ∃ wz, wz = w.alloc (.cells #[.int .i64 N, .int .i64 D] 46) := ⟨_, rfl⟩
  have HB := hid (show Below w.heap.size w wz by rw [hwz]; exact (Below.refl _ _).alloc (Nat.le_refl _) _)
  have l0 : wz.cell? ⟨w.heap.size, 0, none⟩ = some (.int .i64 N) := by rw [hwz, World.cell?_alloc_at _ _ _ _ rfl]; rfl
  have l1 : wz.cell? ⟨w.heap.size, 1, none⟩ = some (.int .i64 D) := by rw [hwz, World.cell?_alloc_at _ _ _ _ rfl]; rfl
  have HV := hid (fvalid_c wz N D)
  obtain ⟨b, hb⟩ : ∃ b, b = validR (N, D) := ⟨_, rfl⟩
  rw [← hb] at HV ⊢
  clear hb
  go_enter Try.func101, Try.ntmps101
  go_wp2_with fail
  rw [← hwz]
  clear hwz
  go_wp2_with (go_at_call 141; refine HV.out.mono ?_; rintro e w2 ⟨rfl, hb2⟩; refine Stop.of ?_)
  refine Stop.go ?_
  go_wp2
  go_ret
  exact ⟨rfl, chain HB.out hb2⟩

theorem indexInv (w : World) (a : Option Addr) (n cap : Nat) (l : List Rt) (hn : l.length = n) (hm : n ≤ maxLen) (H : RatsAt w a l) :
    Calls Try.prog 140 #[.slice a n cap, .func (.func 101) #[] #[]] w fun e w' => e = .returned (.int .i64 (idxP (fun r => !validR r) l 0)) ∧ Below w.heap.size w w' := by
  have HN := hid hn
  have HH := hid H
  have HP := hid (fun (X : World) (N D : Int) => linvalid_c X N D)
  have eg := enters_of Try.func101 (by kernel_rfl) rfl
  clear hn H
  unfold maxLen at hm
  go_enter Try.func140, Try.ntmps140
  go_wp2
  go_loopw [8] (fun i wr => ∃ k : Nat, k ≤ n ∧ i = .int .i64 k ∧ Below w.heap.size w wr ∧ ∀ i y, i < k → l[i]? = some y → (!validR y) = false) (fun i _ => n - (intOf i).toNat)
  case atStart => exact ⟨0, Nat.zero_le _, rfl, Below.refl _ _, fun i y h => by omega⟩
  case round =>
    obtain ⟨k, hk, rfl, hb, hno⟩ := hrel
    have HNO := hid hno
    clear hno
    by_cases hlt : k < n
    · have hkl : k < l.length := by rw [HN.out]; exact hlt
      obtain ⟨b, off, rfl, hbs, h0, h1⟩ := (HH.out.below hb) k hkl
      have HK := hid (List.getElem?_eq_getElem hkl)
      obtain ⟨⟨r1, r2⟩, hr⟩ : ∃ r, r = l[k]'hkl := ⟨_, rfl⟩
      rw [← hr] at h0 h1 HK
      simp only [] at h0 h1
      have HC := hid (HP.out wr r1 r2)
      obtain ⟨B, hB⟩ : ∃ B, B = validR (r1, r2) := ⟨_, rfl⟩
      rw [← hB] at HC
      have HBB := hid hB.symm
      clear hr hB hkl
      go_wp2_with (refine HC.out.mono ?_; rintro e w1 ⟨rfl, hb1⟩; refine Stop.of ?_)
      refine Stop.go ?_
      cases B
      · go_wp2
        go_ret
        refine ⟨ret_int ?_, chain hb hb1⟩
        rw [idxP_at (fun r => !validR r) l 0 k _ HK.out (by simp [HBB.out]) HNO.out]; simp
      · go_wp2
        refine ⟨⟨k + 1, by omega, by go_num, chain hb hb1, ?_⟩, by simp [intOf]; omega⟩
        intro i y hi hy
        by_cases e : i = k
        · subst e; rw [HK.out] at hy; cases hy; simp [HBB.out]
        · exact HNO.out i y (by omega) hy
    · go_wp2
      go_ret
      refine ⟨ret_int ?_, hb⟩
      rw [idxP_neg]
      intro x hx
      obtain ⟨i, hi, e⟩ := List.getElem_of_mem hx
      exact HNO.out i x (by have := HN.out; omega) (by rw [List.getElem?_eq_getElem hi, e])

theorem containsInv (w : World) (a : Option Addr) (n cap : Nat) (l : List Rt) (hn : l.length = n) (hm : n ≤ maxLen) (H : RatsAt w a l) :
    Calls Try.prog 100 #[.slice a n cap, .func (.func 101) #[] #[]] w fun e w' => e = .returned (.bool (!l.all validR)) ∧ Below w.heap.size w w' := by
  have HC := hid (indexInv w a n cap l hn hm H)
  have HG := idxP_ge (fun r => !validR r) l 0
  have HG' := hid HG
  clear hn H HG
  go_enter Try.func100, Try.ntmps100
  go_wp2_with (refine HC.out.mono ?_; rintro e w1 ⟨rfl, hb1⟩)
  go_ret
  refine ⟨ret_bool ?_, hb1⟩
  rw [Bool.eq_iff_iff, decide_eq_true_iff, HG'.out, List.not_all_eq_any_not]

theorem lreading_c (w : World) (a a2 : Option Addr) (n cap n2 cap2 : Nat) (M : Mask) (y : List Int) (hn : M.length = n) (hn2 : y.length = n2) (hm : n ≤ maxLen) (hm2 : n2 ≤ maxLen) (H : RowsAt w a M) (H2 : IntsAt w a2 y) :
    Calls Try.prog 48 #[.slice a n cap, .slice a2 n2 cap2] w fun e w' => e = .returned (.bool (decide (rdE M y = 0))) ∧ Below w.heap.size w w' := by
  have HC := hid (check_c w a a2 none n cap n2 cap2 0 0 M y [] hn hn2 rfl hm hm2 (by decide) H H2 (fun j hj => by simp at hj))
  rw [← rd_check] at HC
  obtain ⟨E, hE⟩ : ∃ E, E = rdE M y := ⟨_, rfl⟩
  rw [← hE] at HC ⊢
  clear hE hn hn2 H H2
  go_enter Try.func48, Try.ntmps48
  go_wp2_with (go_at_call 90; refine HC.out.mono ?_; rintro e w1 ⟨rfl, hb1⟩; refine Stop.of ?_)
  refine Stop.go ?_
  go_wp2
  go_ret
  exact ⟨ret_bool (by rw [Bool.eq_iff_iff]; simp), hb1⟩
end
end Go.Proofs.Ytfipebkhomppmaa

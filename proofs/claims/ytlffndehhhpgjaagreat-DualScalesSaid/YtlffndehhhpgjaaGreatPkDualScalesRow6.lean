/- Walks and plain laws for DualScalesRow, part 6. -/
import Derived.Laws.Externs
import Derived.BigQuiet
import Derived.WalkSmall
import Derived.Test.YtlffndehhhpgjaaGreatPkDualScalesRow5
namespace Go.Proofs.YtlffndehhhpgjaaGreat
section
open Go.RowKit Go.Lib
set_option linter.unusedVariables false
set_option linter.unusedSimpArgs false

theorem AnyT.nextB {P : Program} {md : Region.Mode} {ops : Array Oper} {Q : Exit → Act → World → Prop} {T : Nat → World → Prop} {i j : Nat} {fuel : Nat} {listed : Array Bool} {a : Act} {w : World} (hr : Region.ready md ops listed = [i, j])
    (h1 : wpOp P ops Q i (fun a' w' => T i w' ∧ AnyT P md ops Q T fuel (listed.setIfInBounds i true) a' w') a w)
    (h2 : wpOp P ops Q j (fun a' w' => T j w' ∧ AnyT P md ops Q T fuel (listed.setIfInBounds j true) a' w') a w) : AnyT P md ops Q T (fuel + 1) listed a w :=
  ⟨fun h0 => (by rw [hr] at h0; cases h0), fun k hk => by
    rw [hr] at hk
    have : k = i ∨ k = j := by simpa using hk
    rcases this with rfl | rfl
    · exact h1
    · exact h2⟩

theorem add64 (x y b : Int) (hx : 0 ≤ x) (hx' : x < 18446744073709551616) (hy : 0 ≤ y) (hy' : y < 18446744073709551616) (hb0 : 0 ≤ b) (hb : b ≤ 1) (w : World) : (callFunc 212 #[.int .u64 x, .int .u64 y, .int .u64 b]).run Tryz.prog w =
    .ok (.value (.tuple #[.int .u64 ((x + y + b) % 18446744073709551616), .int .u64 ((x + y + b) / 18446744073709551616)])) w := by
  rw [run_callFunc_extern Tryz.func212 (by kernel_rfl) (by kernel_rfl) (by kernel_rfl) (e := add64Entry) (by kernel_rfl), run_add64 x y b (by omega) (by omega) (by omega) (by omega)]
  simp only [Result.andThen]

theorem wplus_c (w : World) (V U : Int) (h : -170141183460469231731687303715884105728 ≤ V + U ∧ V + U < 170141183460469231731687303715884105728) (hV : -170141183460469231731687303715884105728 ≤ V ∧ V < 170141183460469231731687303715884105728) (hU : -170141183460469231731687303715884105728 ≤ U ∧ U < 170141183460469231731687303715884105728) :
    Calls Tryz.prog 161 #[wideV V, wideV U] w fun e w' => e = .returned (wideV (V + U)) ∧ Below w.heap.size w w' := by
  unfold wideV
  obtain ⟨a, ha⟩ : ∃ a, a = V / 18446744073709551616 := ⟨_, rfl⟩
  obtain ⟨b, hb⟩ : ∃ a, a = V % 18446744073709551616 := ⟨_, rfl⟩
  obtain ⟨c, hc⟩ : ∃ a, a = U / 18446744073709551616 := ⟨_, rfl⟩
  obtain ⟨d, hd⟩ : ∃ a, a = U % 18446744073709551616 := ⟨_, rfl⟩
  obtain ⟨r1, hr1⟩ : ∃ a, a = (V + U) / 18446744073709551616 := ⟨_, rfl⟩
  obtain ⟨r2, hr2⟩ : ∃ a, a = (V + U) % 18446744073709551616 := ⟨_, rfl⟩
  obtain ⟨k, hk⟩ : ∃ k, k = (b + d + 0) / 18446744073709551616 := ⟨_, rfl⟩
  obtain ⟨a', ha'⟩ : ∃ k, k = IntKind.u64.wrap a := ⟨_, rfl⟩
  obtain ⟨c', hc'⟩ : ∃ k, k = IntKind.u64.wrap c := ⟨_, rfl⟩
  have ea : a' = a % 18446744073709551616 := by rw [ha', IntKind.wrap_u64]
  have ec : c' = c % 18446744073709551616 := by rw [hc', IntKind.wrap_u64]
  obtain ⟨s, hs⟩ : ∃ s, s = (a' + c' + k) % 18446744073709551616 := ⟨_, rfl⟩
  obtain ⟨t, ht⟩ : ∃ s, s = (a' + c' + k) / 18446744073709551616 := ⟨_, rfl⟩
  have k0 : 0 ≤ k ∧ k ≤ 1 := by omega
  have s1 : ∀ w, (callFunc 212 #[.int .u64 b, .int .u64 d, .int .u64 0]).run Tryz.prog w = .ok (.value (.tuple #[.int .u64 r2, .int .u64 k])) w := fun w => by
    rw [add64 b d 0 (by omega) (by omega) (by omega) (by omega) (by decide) (by decide), ← hk, show (b + d + 0) % 18446744073709551616 = r2 by omega]
  have s2 : ∀ w, (callFunc 212 #[.int .u64 a', .int .u64 c', .int .u64 k]).run Tryz.prog w = .ok (.value (.tuple #[.int .u64 s, .int .u64 t])) w := fun w => by
    rw [add64 a' c' k (by omega) (by omega) (by omega) (by omega) k0.1 k0.2, ← hs, ← ht]
  have hw : IntKind.i64.wrap s = r1 := by rw [IntKind.wrap_i64]; omega
  have ha2 : IntKind.u64.wrap a = a' := ha'.symm
  have hc2 : IntKind.u64.wrap c = c' := hc'.symm
  rw [← ha, ← hb, ← hc, ← hd, ← hr1, ← hr2]
  clear ha hb hc hd hr1 hr2 hk ha' hc' ea ec hs ht k0 h hV hU
  go_enter Tryz.func161, Tryz.ntmps161
  go_wp2_with (first | simp only [s1] | simp only [s2])
  simp [bodyPost, results, Tryz.results161, go_sem]
  exact (((Below.refl _ _).alloc (Nat.le_refl _) _).alloc (by simp) _).alloc (by simp; omega) _

theorem wopp_c (w : World) (V : Int) (hV : -170141183460469231731687303715884105728 < V ∧ V < 170141183460469231731687303715884105728) :
    Calls Tryz.prog 149 #[wideV V] w fun e w' => e = .returned (wideV (-V)) ∧ Below w.heap.size w w' := by
  unfold wideV
  obtain ⟨a, ha⟩ : ∃ a, a = V / 18446744073709551616 := ⟨_, rfl⟩
  obtain ⟨l, hl⟩ : ∃ a, a = V % 18446744073709551616 := ⟨_, rfl⟩
  obtain ⟨R1, hR1⟩ : ∃ R, R = (-V) / 18446744073709551616 := ⟨_, rfl⟩
  obtain ⟨R2, hR2⟩ : ∃ R, R = (-V) % 18446744073709551616 := ⟨_, rfl⟩
  obtain ⟨b, hb⟩ : ∃ b : Int, b = if (0 : Int) < l then 1 else 0 := ⟨_, rfl⟩
  have b0 : 0 ≤ b := by rw [hb]; split <;> decide
  have b1 : b ≤ 1 := by rw [hb]; split <;> decide
  have hbl : (0 < l → b = 1) ∧ (¬ 0 < l → b = 0) := by rw [hb]; exact ⟨fun h => if_pos h, fun h => if_neg h⟩
  obtain ⟨h, hh⟩ : ∃ k, k = IntKind.u64.wrap a := ⟨_, rfl⟩
  have eh : h = a % 18446744073709551616 := by rw [hh, IntKind.wrap_u64]
  obtain ⟨R3, hR3⟩ : ∃ R, R = (0 - h - b) % 18446744073709551616 := ⟨_, rfl⟩
  obtain ⟨bo, hbo⟩ : ∃ bo : Int, bo = if 0 < h + b then 1 else 0 := ⟨_, rfl⟩
  have s1 : ∀ w, (callFunc 208 #[.int .u64 0, .int .u64 l, .int .u64 0]).run Tryz.prog w = .ok (.value (.tuple #[.int .u64 R2, .int .u64 b])) w := fun w => by
    rw [sub64_0 0 l (by decide) (by omega) (by omega), ← hb, show (0 - l) % 18446744073709551616 = R2 by omega]
  have s2 : ∀ w, (callFunc 208 #[.int .u64 0, .int .u64 h, .int .u64 b]).run Tryz.prog w = .ok (.value (.tuple #[.int .u64 R3, .int .u64 bo])) w := fun w => by
    rw [sub64 0 h b (by decide) (by omega) (by omega) b0 b1, ← hR3, ← hbo]
  have hw : IntKind.i64.wrap R3 = R1 := by
    rw [IntKind.wrap_i64]
    rcases Int.lt_or_le 0 l with h1 | h1
    · have := hbl.1 h1; omega
    · have := hbl.2 (by omega); omega
  have hu : IntKind.u64.wrap a = h := hh.symm
  rw [← ha, ← hl, ← hR1, ← hR2]
  clear ha hl hR1 hR2 hb b0 b1 hbl hh eh hR3 hbo hV
  go_enter Tryz.func149, Tryz.ntmps149
  go_wp2_with (first | simp only [s1] | simp only [s2])
  simp [bodyPost, results, Tryz.results149, go_sem]
  exact ((Below.refl _ _).alloc (Nat.le_refl _) _).alloc (by simp) _

def sumV (n d : Int) : Value := .agg #[.int .i64 (n / 18446744073709551616), .int .u64 (n % 18446744073709551616), .int .i64 (d / 18446744073709551616), .int .u64 (d % 18446744073709551616)]

theorem wzero_c (w : World) : Calls Tryz.prog 95 #[] w fun e w' => e = .returned (sumV 0 1) ∧ Below w.heap.size w w' := by
  have h0 : sumV 0 1 = .agg #[.int .i64 0, .int .u64 0, .int .i64 0, .int .u64 1] := by simp [sumV]
  rw [h0]
  go_enter Tryz.func95, Tryz.ntmps95
  go_wp2
  simp [bodyPost, results, Tryz.results95, go_sem]
  exact (Below.refl _ _).alloc (Nat.le_refl _) _

theorem div_mod_join {P HX q o r K : Nat} (h : P = HX * K + q) (ho : o = q / K) (hr : r = q % K) : P = (HX + o) * K + r := by
  have := Nat.div_add_mod q K
  rw [← ho, ← hr, Nat.mul_comm] at this
  rw [h, Nat.add_mul]; omega
theorem mul_split {v H l K x : Nat} (hv : v = H * K + l) : v * x = H * x * K + l * x := by rw [hv, Nat.add_mul, Nat.mul_right_comm]
set_option maxRecDepth 100000 in
set_option maxHeartbeats 1000000 in
theorem wtimes0_c (w : World) (V n : Int) (h0 : 0 ≤ V) (hV : V < 170141183460469231731687303715884105728) (hn : -9223372036854775808 < n ∧ n ≤ 9223372036854775807) (hP : V * (n.natAbs : Nat) < 170141183460469231731687303715884105728) :
    Calls Tryz.prog 151 #[wideV V, .int .i64 n] w fun e w' => e = .returned (wideV (V * n)) ∧ Below w.heap.size w w' := by
  have HSZ := hid (fun X => size_c X n ⟨by omega, hn.2⟩)
  obtain ⟨x, hx⟩ : ∃ x, x = n.natAbs := ⟨_, rfl⟩
  rw [← hx] at HSZ hP
  obtain ⟨v, rfl⟩ := Int.eq_ofNat_of_zero_le h0
  have hx1 : x ≤ 9223372036854775807 := by omega
  obtain ⟨H, hH⟩ : ∃ H, H = v / 18446744073709551616 := ⟨_, rfl⟩
  obtain ⟨l, hl⟩ : ∃ H, H = v % 18446744073709551616 := ⟨_, rfl⟩
  have hv : v = H * 18446744073709551616 + l := by omega
  have hl1 : l < 18446744073709551616 := by omega
  have hPn : v * x < 170141183460469231731687303715884105728 := by rw [← Int.natCast_mul] at hP; omega
  have hmul : v * x = H * x * 18446744073709551616 + l * x := mul_split hv
  obtain ⟨HX, hHX⟩ : ∃ k, k = H * x := ⟨_, rfl⟩
  obtain ⟨o, ho⟩ : ∃ k, k = l * x / 18446744073709551616 := ⟨_, rfl⟩
  obtain ⟨r, hr⟩ : ∃ k, k = l * x % 18446744073709551616 := ⟨_, rfl⟩
  have HM := hid (fun X => mul64_c l x hl1 (by omega) X)
  rw [← ho, ← hr] at HM
  obtain ⟨P, hPe⟩ : ∃ P, P = v * x := ⟨_, rfl⟩
  rw [← hPe] at hPn hmul
  rw [← hHX] at hmul
  have hPd : P = (HX + o) * 18446744073709551616 + r := div_mod_join hmul ho hr
  have hsum : HX + o < 9223372036854775808 := by omega
  have hr1 : r < 18446744073709551616 := by omega
  have hw0 : wideV (v : Int) = .agg #[.int .i64 H, .int .u64 l] := by
    unfold wideV
    rw [show (v : Int) / 18446744073709551616 = H by omega, show (v : Int) % 18446744073709551616 = l by omega]
  obtain ⟨R, hR⟩ : ∃ R : Nat, R = HX + o := ⟨_, rfl⟩
  have hwP : wideV (P : Int) = .agg #[.int .i64 R, .int .u64 r] := by
    unfold wideV
    rw [show (P : Int) / 18446744073709551616 = R by omega, show (P : Int) % 18446744073709551616 = r by omega]
  have HWP := hid hwP
  have e1 : IntKind.i64.wrap (x : Int) = x := IntWalk.i64_in _ (by omega)
  have e2 : IntKind.i64.wrap ((H : Int) * x) = HX := by rw [show (H : Int) * x = (HX : Int) by rw [hHX]; simp]; exact IntWalk.i64_in _ (by omega)
  have e3 : IntKind.i64.wrap (o : Int) = o := IntWalk.i64_in _ (by omega)
  have e4 : IntKind.i64.wrap ((HX : Int) + o) = R := by rw [IntWalk.i64_in _ (by omega)]; omega
  have hneg : ¬ ((H : Int) < 0) := by omega
  have hres : (v : Int) * n = if n < 0 then -(P : Int) else (P : Int) := by
    have : (P : Int) = (v : Int) * x := by rw [hPe]; simp
    split
    · rw [this, show n = -(x : Int) by omega, Int.mul_neg]
    · rw [this, show n = (x : Int) by omega]
  have HO := hid (fun X => wopp_c X (P : Int) (by omega))
  rw [hwP] at HO
  rw [hw0, hres]
  clear hwP
  obtain ⟨s, hs⟩ : ∃ s, s = w.heap.size := ⟨_, rfl⟩
  obtain ⟨wa, hwa⟩ : ∃ wa, wa = (w.alloc (.cells #[.int .i64 H, .int .u64 l] 100)).alloc (.cells #[.int .i64 0, .int .u64 0] 100) := ⟨_, rfl⟩
  have hba : Below w.heap.size w wa := by rw [hwa]; exact ((Below.refl _ _).alloc (Nat.le_refl _) _).alloc (by simp) _
  have l0 := lift_cell (W := wa) (b := s) (o := 0) (by rw [hwa, hs]; simp; omega) (show _ = some (.int .i64 H) by rw [hwa, hs, World.cell?_alloc_past _ _ _ (by simp), World.cell?_alloc_at _ _ _ _ rfl]; rfl)
  have l1 := lift_cell (W := wa) (b := s) (o := 1) (by rw [hwa, hs]; simp; omega) (show _ = some (.int .u64 l) by rw [hwa, hs, World.cell?_alloc_past _ _ _ (by simp), World.cell?_alloc_at _ _ _ _ rfl]; rfl)
  have q0 : wa.heap[s + 1]? = some (.cells #[.int .i64 0, .int .u64 0] 100 (0, 0)) := by
    have := World.alloc_heap_new (w.alloc (.cells #[.int .i64 H, .int .u64 l] 100)) (.cells #[.int .i64 0, .int .u64 0] 100)
    rw [hwa, hs]
    simpa using this
  have hs1 : s + 1 < wa.heap.size := (Array.getElem?_eq_some_iff.1 q0).1
  have HS := hid (fun (Y : World) (hY : Below wa.heap.size wa Y) => show Y.cell? ⟨s, 0, none⟩ = some (.int .i64 H) from by
    refine (hY.cell (p := ⟨s, 0, none⟩) (by show s < _; omega)).trans ?_
    rw [hwa, hs, World.cell?_alloc_past _ _ _ (by simp), World.cell?_alloc_at _ _ _ _ rfl]; rfl)
  have HR := hid (fun (Y : World) (hY : Below wa.heap.size wa Y) => show Y.cell? ⟨s + 1, 0, none⟩ = some (.int .i64 0) ∧ Y.cell? ⟨s + 1, 1, none⟩ = some (.int .u64 0) ∧ Y.frozen? ⟨s + 1, 0, none⟩ = false ∧ Y.frozen? ⟨s + 1, 1, none⟩ = false ∧ s + 1 < Y.heap.size from by
    have h1 := (hY.block (s + 1) hs1).trans q0
    exact ⟨by simp [World.cell?, h1], by simp [World.cell?, h1], by simp [World.frozen?, h1], by simp [World.frozen?, h1], (Array.getElem?_eq_some_iff.1 h1).1⟩)
  have HFIN := hid (fun (Y : World) (hY : Below wa.heap.size wa Y) (u v : Value) => show Below w.heap.size w ((Y.setCell ⟨s + 1, 0, none⟩ u).setCell ⟨s + 1, 1, none⟩ v) from
    below_set (below_set (chain hba hY) (by omega) 0 u) (by omega) 1 v)
  clear hx hv hH hl hPn hP hmul hHX ho hr hPe hPd hsum hr1 hw0 hR hres h0 hV hn q0 hs1 hba
  go_enter Tryz.func151, Tryz.ntmps151
  go_wp2_with fail
  rw [← hs, ← hwa]
  clear hs hwa
  go_wp2
  refine region_lift (by kernel_rfl) (by kernel_rfl) ?_
  repeat (go_big_quiet_step (first
    | (go_at_call 210; exact lift_calls ((HSZ.out _).mono fun e w' ⟨h1, h2⟩ => ⟨h1, h2 ▸ Below.refl _ _⟩))
    | (go_at_call 209; exact lift_calls ((HM.out _).mono fun e w' ⟨h1, h2⟩ => ⟨h1, h2 ▸ Below.refl _ _⟩))))
  refine wpQuiet_nil ?_
  rintro _ ⟨X, rfl⟩
  have HB1 := hid (lift_below wa X)
  go_wp2
  refine plain_region (fun j' X => wAll j' = true → X.cell? ⟨s, 0, none⟩ = some (.int .i64 H)) (by kernel_rfl) ?_
  have hbd : Below wa.heap.size wa (lift wa X).drew := HB1.out.drew
  generalize (lift wa X).drew = wd at hbd ⊢
  refine AnyT.takeD (i := 0) (v := .pointer (some ⟨s, 0, none⟩)) rfl rfl (by kernel_rfl) (by kernel_rfl) (by kernel_rfl) (by first | exact (fun _ _ _ h => h) | exact (fun _ _ _ h => absurd h.1 (by simp))) (by kernel_rfl) (by rfl) (by rintro w' y1; go_simp) (HS.out _ hbd) ?_; go_frame
  refine AnyT.takeD (i := 1) (v := .int .i64 H) rfl rfl (by kernel_rfl) (by kernel_rfl) (by kernel_rfl) (by first | exact (fun _ _ _ h => h) | exact (fun _ _ _ h => absurd h.1 (by simp))) (by kernel_rfl) (by rfl) (by rintro w' y1; go_simp) (HS.out _ hbd) ?_; go_frame
  refine AnyT.takeD (i := 2) (v := .int .i64 n) rfl rfl (by kernel_rfl) (by kernel_rfl) (by kernel_rfl) (by first | exact (fun _ _ _ h => h) | exact (fun _ _ _ h => absurd h.1 (by simp))) (by kernel_rfl) (by rfl) (by rintro w' y1; go_simp) (HS.out _ hbd) ?_; go_frame
  refine AnyT.takeD (i := 6) (v := .int .u64 o) rfl rfl (by kernel_rfl) (by kernel_rfl) (by kernel_rfl) (by first | exact (fun _ _ _ h => h) | exact (fun _ _ _ h => absurd h.1 (by simp))) (by kernel_rfl) (by rfl) (by rintro w' y1; go_simp) (HS.out _ hbd) ?_; go_frame
  refine AnyT.takeD (i := 7) (v := .int .i64 o) rfl rfl (by kernel_rfl) (by kernel_rfl) (by kernel_rfl) (by first | exact (fun _ _ _ h => h) | exact (fun _ _ _ h => absurd h.1 (by simp))) (by kernel_rfl) (by rfl) (by rintro w' y1; go_simp) (HS.out _ hbd) ?_; go_frame
  refine AnyT.takeD (i := 9) (v := .int .u64 r) rfl rfl (by kernel_rfl) (by kernel_rfl) (by kernel_rfl) (by first | exact (fun _ _ _ h => h) | exact (fun _ _ _ h => absurd h.1 (by simp))) (by kernel_rfl) (by rfl) (by rintro w' y1; go_simp) (HS.out _ hbd) ?_; go_frame
  refine AnyT.nextB (i := 3) (j := 11) (by kernel_rfl) (wpOp_of_list rfl ?_) (wpOp_of_list rfl ?_)
  · go_wp2_with (go_at_call 210; refine (HSZ.out _).mono ?_; rintro e w1 ⟨rfl, rfl⟩; refine Stop.of ?_)
    refine Stop.go ?_
    go_wp2
    refine ⟨fun _ => HS.out _ hbd, ?_⟩
    refine AnyT.takeD (i := 4) (v := .int .i64 x) rfl rfl (by kernel_rfl) (by kernel_rfl) (by kernel_rfl) (by first | exact (fun _ _ _ h => h) | exact (fun _ _ _ h => absurd h.1 (by simp))) (by kernel_rfl) (by rfl) (by rintro w' y1; go_simp) (HS.out _ hbd) ?_; go_frame
    refine AnyT.takeD (i := 5) (v := .int .i64 HX) rfl rfl (by kernel_rfl) (by kernel_rfl) (by kernel_rfl) (by first | exact (fun _ _ _ h => h) | exact (fun _ _ _ h => absurd h.1 (by simp))) (by kernel_rfl) (by rfl) (by rintro w' y1; go_simp) (HS.out _ hbd) ?_; go_frame
    refine AnyT.takeD (i := 8) (v := .int .i64 R) rfl rfl (by kernel_rfl) (by kernel_rfl) (by kernel_rfl) (by first | exact (fun _ _ _ h => h) | exact (fun _ _ _ h => absurd h.1 (by simp))) (by kernel_rfl) (by rfl) (by rintro w' y1; go_simp) (HS.out _ hbd) ?_; go_frame
    refine AnyT.takeD (i := 10) (v := .agg #[.int .i64 R, .int .u64 r]) rfl rfl (by kernel_rfl) (by kernel_rfl) (by kernel_rfl) (by first | exact (fun _ _ _ h => h) | exact (fun _ _ _ h => absurd h.1 (by simp))) (by kernel_rfl) (by rfl) (by rintro w' y1; go_simp) (HS.out _ hbd) ?_; go_frame
    refine AnyT.next (i := 11) (by kernel_rfl) rfl (wpOp_of_list rfl ?_)
    have hbA : Below wa.heap.size wa (wd.alloc (.cells #[.int .i64 0, .int .u64 0] 100)) := hbd.alloc hbd.size _
    go_wp2
    refine ⟨fun _ => HS.out _ hbA, ?_⟩
    refine AnyT.next (i := 12) (by kernel_rfl) rfl (wpOp_of_list rfl ?_)
    have hbF : Below wa.heap.size wa (wd.alloc (.cells #[.int .i64 R, .int .u64 r] 100)) := hbd.alloc hbd.size _
    have HBF := hid hbF
    have HR2 := hid (HR.out _ hbF)
    have HQ := hid (show ∀ Y, Below (wd.alloc (.cells #[.int .i64 R, .int .u64 r] 100)).heap.size (wd.alloc (.cells #[.int .i64 R, .int .u64 r] 100)) Y → Y.cell? ⟨wd.heap.size, 0, none⟩ = some (.int .i64 R) ∧ Y.cell? ⟨wd.heap.size, 1, none⟩ = some (.int .u64 r) from fun Y hY => by
      have h1 := (hY.block wd.heap.size (by simp)).trans (World.alloc_heap_new wd _)
      exact ⟨by simp [World.cell?, h1], by simp [World.cell?, h1]⟩)
    clear hbA
    go_wp2
    refine ⟨fun _ => HS.out _ HBF.out, ?_⟩
    refine AnyT.done (by kernel_rfl) ?_ _
    clear hbF hbd
    obtain ⟨wz, hwz⟩ : ∃ wz, wz = wd.alloc (.cells #[.int .i64 R, .int .u64 r] 100) := ⟨_, rfl⟩
    rw [← hwz] at HBF HR2 HQ ⊢
    clear hwz
    obtain ⟨c0, c1, f0, f1, hlt⟩ := HR2.out
    obtain ⟨d0, d1⟩ := HQ.out wz (Below.refl _ _)
    by_cases hn0 : n < 0
    · have hnb : decide (n < 0) = true := by simp [hn0]
      go_wp2_with (go_at_call 149; refine (HO.out wz).mono ?_; rintro e w2 ⟨rfl, hb2⟩; refine Stop.of ?_)
      refine Stop.go ?_
      have HB2 := hid (chain HBF.out hb2)
      obtain ⟨c0, c1, f0, f1, hlt⟩ := HR.out _ HB2.out
      have HFI := hid (HFIN.out _ HB2.out)
      have hwz := (show wideV (-(P : Int)) = .agg #[.int .i64 ((-(P : Int)) / 18446744073709551616), .int .u64 ((-(P : Int)) % 18446744073709551616)] from rfl)
      obtain ⟨z1, hz1⟩ : ∃ z, z = (-(P : Int)) / 18446744073709551616 := ⟨_, rfl⟩
      obtain ⟨z2, hz2⟩ : ∃ z, z = (-(P : Int)) % 18446744073709551616 := ⟨_, rfl⟩
      rw [← hz1, ← hz2] at hwz
      have HWZ := hid hwz
      rw [hwz]
      clear hwz hb2 HFIN hz1 hz2
      go_wp2
      refine bodyPost_ret (v := .agg #[.int .i64 z1, .int .u64 z2]) ?_ rfl ⟨by first | rw [HWZ.out] | rw [if_pos (by omega), HWZ.out], HFI.out _ _⟩
      simp [results, Tryz.results151, go_sem, c0, c1, f0, f1, hlt]
    · have hnb : decide (n < 0) = false := by simp [hn0]
      have HFI := hid (HFIN.out _ HBF.out)
      clear HFIN
      go_wp2
      refine bodyPost_ret (v := .agg #[.int .i64 R, .int .u64 r]) ?_ rfl ⟨by first | rw [HWP.out] | rw [if_neg (by omega), HWP.out], HFI.out _ _⟩
      simp [results, Tryz.results151, go_sem, c0, c1, f0, f1, hlt]
  · go_wp2
    have hbA : Below wa.heap.size wa (wd.alloc (.cells #[.int .i64 0, .int .u64 0] 100)) := hbd.alloc hbd.size _
    refine ⟨fun _ => HS.out _ hbA, ?_⟩
    refine AnyT.next (i := 3) (by kernel_rfl) rfl (wpOp_of_list rfl ?_)
    go_wp2_with (go_at_call 210; refine (HSZ.out _).mono ?_; rintro e w1 ⟨rfl, rfl⟩; refine Stop.of ?_)
    refine Stop.go ?_
    go_wp2
    refine ⟨fun _ => HS.out _ hbA, ?_⟩
    refine AnyT.takeD (i := 4) (v := .int .i64 x) rfl rfl (by kernel_rfl) (by kernel_rfl) (by kernel_rfl) (by first | exact (fun _ _ _ h => h) | exact (fun _ _ _ h => absurd h.1 (by simp))) (by kernel_rfl) (by rfl) (by rintro w' y1; go_simp) (HS.out _ hbA) ?_; go_frame
    refine AnyT.takeD (i := 5) (v := .int .i64 HX) rfl rfl (by kernel_rfl) (by kernel_rfl) (by kernel_rfl) (by first | exact (fun _ _ _ h => h) | exact (fun _ _ _ h => absurd h.1 (by simp))) (by kernel_rfl) (by rfl) (by rintro w' y1; go_simp) (HS.out _ hbA) ?_; go_frame
    refine AnyT.takeD (i := 8) (v := .int .i64 R) rfl rfl (by kernel_rfl) (by kernel_rfl) (by kernel_rfl) (by first | exact (fun _ _ _ h => h) | exact (fun _ _ _ h => absurd h.1 (by simp))) (by kernel_rfl) (by rfl) (by rintro w' y1; go_simp) (HS.out _ hbA) ?_; go_frame
    refine AnyT.takeD (i := 10) (v := .agg #[.int .i64 R, .int .u64 r]) rfl rfl (by kernel_rfl) (by kernel_rfl) (by kernel_rfl) (by first | exact (fun _ _ _ h => h) | exact (fun _ _ _ h => absurd h.1 (by simp))) (by kernel_rfl) (by rfl) (by rintro w' y1; go_simp) (HS.out _ hbA) ?_; go_frame
    refine AnyT.next (i := 12) (by kernel_rfl) rfl (wpOp_of_list rfl ?_)
    have hbF : Below wa.heap.size wa (wd.alloc (.cells #[.int .i64 R, .int .u64 r] 100)) := hbd.alloc hbd.size _
    have HBF := hid hbF
    have HR2 := hid (HR.out _ hbF)
    have HQ := hid (show ∀ Y, Below (wd.alloc (.cells #[.int .i64 R, .int .u64 r] 100)).heap.size (wd.alloc (.cells #[.int .i64 R, .int .u64 r] 100)) Y → Y.cell? ⟨wd.heap.size, 0, none⟩ = some (.int .i64 R) ∧ Y.cell? ⟨wd.heap.size, 1, none⟩ = some (.int .u64 r) from fun Y hY => by
      have h1 := (hY.block wd.heap.size (by simp)).trans (World.alloc_heap_new wd _)
      exact ⟨by simp [World.cell?, h1], by simp [World.cell?, h1]⟩)
    clear hbA
    go_wp2
    refine ⟨fun _ => HS.out _ HBF.out, ?_⟩
    refine AnyT.done (by kernel_rfl) ?_ _
    clear hbF hbd
    obtain ⟨wz, hwz⟩ : ∃ wz, wz = wd.alloc (.cells #[.int .i64 R, .int .u64 r] 100) := ⟨_, rfl⟩
    rw [← hwz] at HBF HR2 HQ ⊢
    clear hwz
    obtain ⟨c0, c1, f0, f1, hlt⟩ := HR2.out
    obtain ⟨d0, d1⟩ := HQ.out wz (Below.refl _ _)
    by_cases hn0 : n < 0
    · have hnb : decide (n < 0) = true := by simp [hn0]
      go_wp2_with (go_at_call 149; refine (HO.out wz).mono ?_; rintro e w2 ⟨rfl, hb2⟩; refine Stop.of ?_)
      refine Stop.go ?_
      have HB2 := hid (chain HBF.out hb2)
      obtain ⟨c0, c1, f0, f1, hlt⟩ := HR.out _ HB2.out
      have HFI := hid (HFIN.out _ HB2.out)
      have hwz := (show wideV (-(P : Int)) = .agg #[.int .i64 ((-(P : Int)) / 18446744073709551616), .int .u64 ((-(P : Int)) % 18446744073709551616)] from rfl)
      obtain ⟨z1, hz1⟩ : ∃ z, z = (-(P : Int)) / 18446744073709551616 := ⟨_, rfl⟩
      obtain ⟨z2, hz2⟩ : ∃ z, z = (-(P : Int)) % 18446744073709551616 := ⟨_, rfl⟩
      rw [← hz1, ← hz2] at hwz
      have HWZ := hid hwz
      rw [hwz]
      clear hwz hb2 HFIN hz1 hz2
      go_wp2
      refine bodyPost_ret (v := .agg #[.int .i64 z1, .int .u64 z2]) ?_ rfl ⟨by first | rw [HWZ.out] | rw [if_pos (by omega), HWZ.out], HFI.out _ _⟩
      simp [results, Tryz.results151, go_sem, c0, c1, f0, f1, hlt]
    · have hnb : decide (n < 0) = false := by simp [hn0]
      have HFI := hid (HFIN.out _ HBF.out)
      clear HFIN
      go_wp2
      refine bodyPost_ret (v := .agg #[.int .i64 R, .int .u64 r]) ?_ rfl ⟨by first | rw [HWP.out] | rw [if_neg (by omega), HWP.out], HFI.out _ _⟩
      simp [results, Tryz.results151, go_sem, c0, c1, f0, f1, hlt]

set_option maxRecDepth 100000 in
set_option maxHeartbeats 1000000 in
theorem wtimes_c (w : World) (V n : Int) (hV : -170141183460469231731687303715884105728 < V ∧ V < 170141183460469231731687303715884105728) (hn : -9223372036854775808 < n ∧ n ≤ 9223372036854775807) (hP : (V.natAbs * n.natAbs : Nat) < 170141183460469231731687303715884105728) :
    Calls Tryz.prog 151 #[wideV V, .int .i64 n] w fun e w' => e = .returned (wideV (V * n)) ∧ Below w.heap.size w w' := by
  by_cases h0 : 0 ≤ V
  · refine wtimes0_c w V n h0 hV.2 hn ?_
    rw [show V = ((V.natAbs : Nat) : Int) by omega, ← Int.natCast_mul]
    omega
  · have HT := hid (fun X => wtimes0_c X (-V) n (by omega) (by omega) hn (by
      rw [show -V = ((V.natAbs : Nat) : Int) by omega, ← Int.natCast_mul]
      omega))
    have HO1 := hid (fun X => wopp_c X V hV)
    have hbn : -170141183460469231731687303715884105728 < -V * n ∧ -V * n < 170141183460469231731687303715884105728 := by
      have e : (-V * n).natAbs = V.natAbs * n.natAbs := by rw [Int.natAbs_mul, Int.natAbs_neg]
      rw [← e] at hP
      omega
    have HO2 := hid (fun X => wopp_c X (-V * n) hbn)
    have hve : - (-V * n) = V * n := by rw [Int.neg_mul, Int.neg_neg]
    rw [hve] at HO2
    obtain ⟨Z, hZ⟩ : ∃ Z, Z = V * n := ⟨_, rfl⟩
    obtain ⟨Y, hY⟩ : ∃ Z, Z = -V * n := ⟨_, rfl⟩
    rw [← hZ] at HO2 ⊢
    rw [← hY] at HT HO2
    obtain ⟨a, ha⟩ : ∃ a, a = V / 18446744073709551616 := ⟨_, rfl⟩
    obtain ⟨l, hl⟩ : ∃ a, a = V % 18446744073709551616 := ⟨_, rfl⟩
    have hw0 : wideV V = .agg #[.int .i64 a, .int .u64 l] := by unfold wideV; rw [← ha, ← hl]
    have hwz : wideV Z = .agg #[.int .i64 (Z / 18446744073709551616), .int .u64 (Z % 18446744073709551616)] := rfl
    obtain ⟨z1, hz1⟩ : ∃ z, z = Z / 18446744073709551616 := ⟨_, rfl⟩
    obtain ⟨z2, hz2⟩ : ∃ z, z = Z % 18446744073709551616 := ⟨_, rfl⟩
    rw [← hz1, ← hz2] at hwz
    rw [hw0] at HO1 ⊢
    rw [hwz] at HO2 ⊢
    have haN : a < 0 := by omega
    obtain ⟨s, hs⟩ : ∃ s, s = w.heap.size := ⟨_, rfl⟩
    obtain ⟨wa, hwa⟩ : ∃ wa, wa = (w.alloc (.cells #[.int .i64 a, .int .u64 l] 100)).alloc (.cells #[.int .i64 0, .int .u64 0] 100) := ⟨_, rfl⟩
    have hba : Below w.heap.size w wa := by rw [hwa]; exact ((Below.refl _ _).alloc (Nat.le_refl _) _).alloc (by simp) _
    have q0 : wa.heap[s + 1]? = some (.cells #[.int .i64 0, .int .u64 0] 100 (0, 0)) := by
      have := World.alloc_heap_new (w.alloc (.cells #[.int .i64 a, .int .u64 l] 100)) (.cells #[.int .i64 0, .int .u64 0] 100)
      rw [hwa, hs]
      simpa using this
    have hs1 : s + 1 < wa.heap.size := (Array.getElem?_eq_some_iff.1 q0).1
    have c00 : wa.cell? ⟨s, 0, none⟩ = some (.int .i64 a) := by rw [hwa, hs, World.cell?_alloc_past _ _ _ (by simp), World.cell?_alloc_at _ _ _ _ rfl]; rfl
    have c01 : wa.cell? ⟨s, 1, none⟩ = some (.int .u64 l) := by rw [hwa, hs, World.cell?_alloc_past _ _ _ (by simp), World.cell?_alloc_at _ _ _ _ rfl]; rfl
    have HR := hid (fun (Y : World) (hY : Below wa.heap.size wa Y) => show Y.cell? ⟨s + 1, 0, none⟩ = some (.int .i64 0) ∧ Y.cell? ⟨s + 1, 1, none⟩ = some (.int .u64 0) ∧ Y.frozen? ⟨s + 1, 0, none⟩ = false ∧ Y.frozen? ⟨s + 1, 1, none⟩ = false ∧ s + 1 < Y.heap.size from by
      have h1 := (hY.block (s + 1) hs1).trans q0
      exact ⟨by simp [World.cell?, h1], by simp [World.cell?, h1], by simp [World.frozen?, h1], by simp [World.frozen?, h1], (Array.getElem?_eq_some_iff.1 h1).1⟩)
    have HFIN := hid (fun (Y : World) (hY : Below wa.heap.size wa Y) (u v : Value) => show Below w.heap.size w ((Y.setCell ⟨s + 1, 0, none⟩ u).setCell ⟨s + 1, 1, none⟩ v) from
      below_set (below_set (chain hba hY) (by omega) 0 u) (by omega) 1 v)
    clear hV hn hP h0 hbn hve hZ hY ha hl hw0 hwz hz1 hz2 q0 hs1 hba
    go_enter Tryz.func151, Tryz.ntmps151
    go_wp2_with fail
    rw [← hs, ← hwa]
    clear hs hwa
    go_wp2_with (go_at_call 149; refine (HO1.out _).mono ?_; rintro e w1 ⟨rfl, hb1⟩; refine Stop.of ?_)
    refine Stop.go ?_
    have HB1 := hid hb1
    clear hb1
    go_wp2_with (go_at_call 151; refine (HT.out _).mono ?_; rintro e w2 ⟨rfl, hb2⟩; refine Stop.of ?_)
    refine Stop.go ?_
    have HB2 := hid (chain HB1.out hb2)
    clear hb2
    go_wp2_with (go_at_call 149; refine (HO2.out _).mono ?_; rintro e w3 ⟨rfl, hb3⟩; refine Stop.of ?_)
    refine Stop.go ?_
    have hb := chain HB2.out hb3
    obtain ⟨c0, c1, f0, f1, hlt⟩ := HR.out _ hb
    have HFI := hid (HFIN.out _ hb)
    clear hb hb3 HFIN
    go_wp2
    refine bodyPost_ret (v := .agg #[.int .i64 z1, .int .u64 z2]) ?_ rfl ⟨rfl, HFI.out _ _⟩
    simp [results, Tryz.results151, go_sem, c0, c1, f0, f1, hlt]
end

section
open Go.RowKit Go.Lib
set_option linter.unusedVariables false
set_option linter.unusedSimpArgs false

def B127 (V : Int) : Prop := -170141183460469231731687303715884105728 < V ∧ V < 170141183460469231731687303715884105728
def WP (V a b : Int) : Prop := a = V / 18446744073709551616 ∧ b = V % 18446744073709551616
theorem WP.ex (V : Int) : ∃ a b, WP V a b := ⟨_, _, rfl, rfl⟩
theorem WP.val {V a b : Int} (h : WP V a b) : wideV V = .agg #[.int .i64 a, .int .u64 b] := by rw [h.1, h.2]; rfl
theorem WP.sum {V U a b c d : Int} (h : WP V a b) (k : WP U c d) : sumV V U = .agg #[.int .i64 a, .int .u64 b, .int .i64 c, .int .u64 d] := by rw [h.1, h.2, k.1, k.2]; rfl

set_option maxRecDepth 100000 in
set_option maxHeartbeats 1000000 in
theorem splus_c (w : World) (n d N D t : Int) (hn : B127 n) (hd : B127 d) (hD : -9223372036854775808 < D ∧ D ≤ 9223372036854775807) (hNt : -9223372036854775808 < N * t ∧ N * t ≤ 9223372036854775807)
    (h1 : B127 (n * D)) (h2 : B127 (d * (N * t))) (h3 : B127 (n * D + d * (N * t))) (h4 : B127 (d * D)) :
    Calls Tryz.prog 96 #[sumV n d, ratV (N, D), .int .i64 t] w fun e w' => e = .returned (sumV (n * D + d * (N * t)) (d * D)) ∧ Below w.heap.size w w' := by
  have nb : ∀ a b : Int, B127 (a * b) → (a.natAbs * b.natAbs : Nat) < 170141183460469231731687303715884105728 := fun a b h => by
    rw [← Int.natAbs_mul]; unfold B127 at h; omega
  have HT1 := hid (fun X => wtimes_c X n D hn hD (nb _ _ h1))
  have HT2 := hid (fun X => wtimes_c X d (N * t) hd hNt (nb _ _ h2))
  have HT3 := hid (fun X => wtimes_c X d D hd hD (nb _ _ h4))
  have HPL := hid (fun X => wplus_c X (n * D) (d * (N * t)) (by unfold B127 at h3; omega) (by unfold B127 at h1; omega) (by unfold B127 at h2; omega))
  have hnt : IntKind.i64.wrap (N * t) = N * t := IntWalk.i64_in _ (by omega)
  obtain ⟨n1, n2, pn⟩ := WP.ex n
  obtain ⟨d1, d2, pd⟩ := WP.ex d
  obtain ⟨a1, a2, pA⟩ := WP.ex (n * D)
  obtain ⟨b1, b2, pB⟩ := WP.ex (d * (N * t))
  obtain ⟨s1, s2, pS⟩ := WP.ex (n * D + d * (N * t))
  obtain ⟨c1, c2, pC⟩ := WP.ex (d * D)
  rw [pn.val, pA.val] at HT1
  rw [pd.val, pB.val] at HT2
  rw [pd.val, pC.val] at HT3
  rw [pA.val, pB.val, pS.val] at HPL
  rw [pn.sum pd, pS.sum pC]
  obtain ⟨m, hm⟩ : ∃ m, m = N * t := ⟨_, rfl⟩
  rw [← hm] at HT2
  have hmul : IntKind.i64.wrap (N * t) = m := by rw [hnt, hm]
  clear hnt hm nb hn hd hD hNt h1 h2 h3 h4 pn pd pA pB pS pC
  obtain ⟨s, hs⟩ : ∃ s, s = w.heap.size := ⟨_, rfl⟩
  obtain ⟨wa, hwa⟩ : ∃ wa, wa = ((w.alloc (.cells #[.int .i64 n1, .int .u64 n2, .int .i64 d1, .int .u64 d2] 102)).alloc (.cells #[.int .i64 N, .int .i64 D] 29)).alloc (.cells #[.int .i64 0, .int .u64 0, .int .i64 0, .int .u64 0] 102) := ⟨_, rfl⟩
  have hba : Below w.heap.size w wa := by rw [hwa]; exact (((Below.refl _ _).alloc (Nat.le_refl _) _).alloc (by simp) _).alloc (by simp; omega) _
  have q0 : wa.heap[s + 2]? = some (.cells #[.int .i64 0, .int .u64 0, .int .i64 0, .int .u64 0] 102 (0, 0)) := by
    have := World.alloc_heap_new ((w.alloc (.cells #[.int .i64 n1, .int .u64 n2, .int .i64 d1, .int .u64 d2] 102)).alloc (.cells #[.int .i64 N, .int .i64 D] 29)) (.cells #[.int .i64 0, .int .u64 0, .int .i64 0, .int .u64 0] 102)
    rw [hwa, hs]
    simpa using this
  have hs1 : s + 2 < wa.heap.size := (Array.getElem?_eq_some_iff.1 q0).1
  have hc : ∀ o v, (#[Value.int .i64 n1, .int .u64 n2, .int .i64 d1, .int .u64 d2] : Array Value)[o]? = some v → wa.cell? ⟨s, o, none⟩ = some v := fun o v h => by
    rw [hwa, hs, World.cell?_alloc_past _ _ _ (by simp; omega), World.cell?_alloc_past _ _ _ (by simp), World.cell?_alloc_at _ _ _ _ rfl]; exact h
  have hc2 : ∀ o v, (#[Value.int .i64 N, .int .i64 D] : Array Value)[o]? = some v → wa.cell? ⟨s + 1, o, none⟩ = some v := fun o v h => by
    rw [hwa, hs, World.cell?_alloc_past _ _ _ (by simp), World.cell?_alloc_at _ _ _ _ (by simp)]; exact h
  have HS := hid (fun (Y : World) (hY : Below wa.heap.size wa Y) => show Y.cell? ⟨s, 0, none⟩ = some (.int .i64 n1) ∧ Y.cell? ⟨s, 1, none⟩ = some (.int .u64 n2) ∧ Y.cell? ⟨s, 2, none⟩ = some (.int .i64 d1) ∧ Y.cell? ⟨s, 3, none⟩ = some (.int .u64 d2) ∧ Y.cell? ⟨s + 1, 0, none⟩ = some (.int .i64 N) ∧ Y.cell? ⟨s + 1, 1, none⟩ = some (.int .i64 D) from by
    have k0 : ∀ o, Y.cell? ⟨s, o, none⟩ = wa.cell? ⟨s, o, none⟩ := fun o => hY.cell (p := ⟨s, o, none⟩) (by show s < _; omega)
    have k1 : ∀ o, Y.cell? ⟨s + 1, o, none⟩ = wa.cell? ⟨s + 1, o, none⟩ := fun o => hY.cell (p := ⟨s + 1, o, none⟩) (by show s + 1 < _; omega)
    exact ⟨(k0 0).trans (hc 0 _ rfl), (k0 1).trans (hc 1 _ rfl), (k0 2).trans (hc 2 _ rfl), (k0 3).trans (hc 3 _ rfl), (k1 0).trans (hc2 0 _ rfl), (k1 1).trans (hc2 1 _ rfl)⟩)
  have HR := hid (fun (Y : World) (hY : Below wa.heap.size wa Y) => show Y.cell? ⟨s + 2, 0, none⟩ = some (.int .i64 0) ∧ Y.cell? ⟨s + 2, 1, none⟩ = some (.int .u64 0) ∧ Y.cell? ⟨s + 2, 2, none⟩ = some (.int .i64 0) ∧ Y.cell? ⟨s + 2, 3, none⟩ = some (.int .u64 0) ∧ (∀ o, Y.frozen? ⟨s + 2, o, none⟩ = false) ∧ s + 2 < Y.heap.size from by
    have h1 := (hY.block (s + 2) hs1).trans q0
    exact ⟨by simp [World.cell?, h1], by simp [World.cell?, h1], by simp [World.cell?, h1], by simp [World.cell?, h1], fun o => by simp [World.frozen?, h1], (Array.getElem?_eq_some_iff.1 h1).1⟩)
  have HFIN := hid (fun (Y : World) (hY : Below wa.heap.size wa Y) (u v x z : Value) => show Below w.heap.size w ((((Y.setCell ⟨s + 2, 0, none⟩ u).setCell ⟨s + 2, 1, none⟩ v).setCell ⟨s + 2, 2, none⟩ x).setCell ⟨s + 2, 3, none⟩ z) from
    below_set (below_set (below_set (below_set (chain hba hY) (by omega) 0 u) (by omega) 1 v) (by omega) 2 x) (by omega) 3 z)
  have HFA := hid (fun (Y : World) (hY : Below wa.heap.size wa Y) (u v x z : Value) => show Below wa.heap.size wa wa ∧ ∀ o : Nat, True from ⟨Below.refl _ _, fun _ => trivial⟩)
  clear hba q0 hs1 hc hc2 HFA
  go_enter Tryz.func96, Tryz.ntmps96
  simp only [ratV]
  go_wp2_with fail
  rw [← hs, ← hwa]
  clear hs hwa
  refine plain_region (fun j' X => decide (j' ≤ 18) = true → X.cell? ⟨s, 0, none⟩ = some (.int .i64 n1) ∧ X.cell? ⟨s, 1, none⟩ = some (.int .u64 n2) ∧ X.cell? ⟨s, 2, none⟩ = some (.int .i64 d1) ∧ X.cell? ⟨s, 3, none⟩ = some (.int .u64 d2) ∧ X.cell? ⟨s + 1, 0, none⟩ = some (.int .i64 N) ∧ X.cell? ⟨s + 1, 1, none⟩ = some (.int .i64 D)) (by kernel_rfl) ?_
  have hbd : Below wa.heap.size wa wa.drew := (Below.refl _ _).drew
  generalize wa.drew = wd at hbd ⊢
  refine AnyT.takeD (i := 0) (v := .pointer (some ⟨s, 0, none⟩)) rfl rfl (by kernel_rfl) (by kernel_rfl) (by kernel_rfl) (by first | exact (fun _ _ _ h => h) | exact (fun _ _ _ h => absurd h.1 (by simp))) (by kernel_rfl) (by rfl) (by rintro w' ⟨y1, y2, y3, y4, y5, y6⟩; go_simp) (HS.out _ hbd) ?_; go_frame
  refine AnyT.takeD (i := 1) (v := .agg #[.int .i64 n1, .int .u64 n2]) rfl rfl (by kernel_rfl) (by kernel_rfl) (by kernel_rfl) (by first | exact (fun _ _ _ h => h) | exact (fun _ _ _ h => absurd h.1 (by simp))) (by kernel_rfl) (by rfl) (by rintro w' ⟨y1, y2, y3, y4, y5, y6⟩; go_simp) (HS.out _ hbd) ?_; go_frame
  refine AnyT.takeD (i := 2) (v := .pointer (some ⟨s + 1, 1, none⟩)) rfl rfl (by kernel_rfl) (by kernel_rfl) (by kernel_rfl) (by first | exact (fun _ _ _ h => h) | exact (fun _ _ _ h => absurd h.1 (by simp))) (by kernel_rfl) (by rfl) (by rintro w' ⟨y1, y2, y3, y4, y5, y6⟩; go_simp) (HS.out _ hbd) ?_; go_frame
  refine AnyT.takeD (i := 3) (v := .int .i64 D) rfl rfl (by kernel_rfl) (by kernel_rfl) (by kernel_rfl) (by first | exact (fun _ _ _ h => h) | exact (fun _ _ _ h => absurd h.1 (by simp))) (by kernel_rfl) (by rfl) (by rintro w' ⟨y1, y2, y3, y4, y5, y6⟩; go_simp) (HS.out _ hbd) ?_; go_frame
  refine AnyT.takeD (i := 5) (v := .pointer (some ⟨s, 2, none⟩)) rfl rfl (by kernel_rfl) (by kernel_rfl) (by kernel_rfl) (by first | exact (fun _ _ _ h => h) | exact (fun _ _ _ h => absurd h.1 (by simp))) (by kernel_rfl) (by rfl) (by rintro w' ⟨y1, y2, y3, y4, y5, y6⟩; go_simp) (HS.out _ hbd) ?_; go_frame
  refine AnyT.takeD (i := 6) (v := .agg #[.int .i64 d1, .int .u64 d2]) rfl rfl (by kernel_rfl) (by kernel_rfl) (by kernel_rfl) (by first | exact (fun _ _ _ h => h) | exact (fun _ _ _ h => absurd h.1 (by simp))) (by kernel_rfl) (by rfl) (by rintro w' ⟨y1, y2, y3, y4, y5, y6⟩; go_simp) (HS.out _ hbd) ?_; go_frame
  refine AnyT.takeD (i := 7) (v := .pointer (some ⟨s + 1, 0, none⟩)) rfl rfl (by kernel_rfl) (by kernel_rfl) (by kernel_rfl) (by first | exact (fun _ _ _ h => h) | exact (fun _ _ _ h => absurd h.1 (by simp))) (by kernel_rfl) (by rfl) (by rintro w' ⟨y1, y2, y3, y4, y5, y6⟩; go_simp) (HS.out _ hbd) ?_; go_frame
  refine AnyT.takeD (i := 8) (v := .int .i64 N) rfl rfl (by kernel_rfl) (by kernel_rfl) (by kernel_rfl) (by first | exact (fun _ _ _ h => h) | exact (fun _ _ _ h => absurd h.1 (by simp))) (by kernel_rfl) (by rfl) (by rintro w' ⟨y1, y2, y3, y4, y5, y6⟩; go_simp) (HS.out _ hbd) ?_; go_frame
  refine AnyT.takeD (i := 9) (v := .int .i64 t) rfl rfl (by kernel_rfl) (by kernel_rfl) (by kernel_rfl) (by first | exact (fun _ _ _ h => h) | exact (fun _ _ _ h => absurd h.1 (by simp))) (by kernel_rfl) (by rfl) (by rintro w' ⟨y1, y2, y3, y4, y5, y6⟩; go_simp) (HS.out _ hbd) ?_; go_frame
  refine AnyT.takeD (i := 10) (v := .int .i64 m) rfl rfl (by kernel_rfl) (by kernel_rfl) (by kernel_rfl) (by first | exact (fun _ _ _ h => h) | exact (fun _ _ _ h => absurd h.1 (by simp))) (by kernel_rfl) (by rfl) (by rintro w' ⟨y1, y2, y3, y4, y5, y6⟩; go_simp) (HS.out _ hbd) ?_; go_frame
  refine AnyT.takeD (i := 13) (v := .pointer (some ⟨s, 2, none⟩)) rfl rfl (by kernel_rfl) (by kernel_rfl) (by kernel_rfl) (by first | exact (fun _ _ _ h => h) | exact (fun _ _ _ h => absurd h.1 (by simp))) (by kernel_rfl) (by rfl) (by rintro w' ⟨y1, y2, y3, y4, y5, y6⟩; go_simp) (HS.out _ hbd) ?_; go_frame
  refine AnyT.takeD (i := 14) (v := .agg #[.int .i64 d1, .int .u64 d2]) rfl rfl (by kernel_rfl) (by kernel_rfl) (by kernel_rfl) (by first | exact (fun _ _ _ h => h) | exact (fun _ _ _ h => absurd h.1 (by simp))) (by kernel_rfl) (by rfl) (by rintro w' ⟨y1, y2, y3, y4, y5, y6⟩; go_simp) (HS.out _ hbd) ?_; go_frame
  refine AnyT.takeD (i := 15) (v := .pointer (some ⟨s + 1, 1, none⟩)) rfl rfl (by kernel_rfl) (by kernel_rfl) (by kernel_rfl) (by first | exact (fun _ _ _ h => h) | exact (fun _ _ _ h => absurd h.1 (by simp))) (by kernel_rfl) (by rfl) (by rintro w' ⟨y1, y2, y3, y4, y5, y6⟩; go_simp) (HS.out _ hbd) ?_; go_frame
  refine AnyT.takeD (i := 16) (v := .int .i64 D) rfl rfl (by kernel_rfl) (by kernel_rfl) (by kernel_rfl) (by first | exact (fun _ _ _ h => h) | exact (fun _ _ _ h => absurd h.1 (by simp))) (by kernel_rfl) (by rfl) (by rintro w' ⟨y1, y2, y3, y4, y5, y6⟩; go_simp) (HS.out _ hbd) ?_; go_frame
  refine AnyT.next (i := 4) (by kernel_rfl) rfl (wpOp_of_list rfl ?_)
  go_wp2_with (go_at_call 151; refine (HT1.out _).mono ?_; rintro e w1 ⟨rfl, hbw1⟩; refine Stop.of ?_)
  refine Stop.go ?_
  have HB1 := hid (chain hbd hbw1)
  clear hbw1
  go_wp2
  refine ⟨fun _ => HS.out _ HB1.out, ?_⟩
  refine AnyT.next (i := 11) (by kernel_rfl) rfl (wpOp_of_list rfl ?_)
  go_wp2_with (go_at_call 151; refine (HT2.out _).mono ?_; rintro e w2 ⟨rfl, hbw2⟩; refine Stop.of ?_)
  refine Stop.go ?_
  have HB2 := hid (chain HB1.out hbw2)
  clear hbw2
  go_wp2
  refine ⟨fun _ => HS.out _ HB2.out, ?_⟩
  refine AnyT.next (i := 12) (by kernel_rfl) rfl (wpOp_of_list rfl ?_)
  go_wp2_with (go_at_call 161; refine (HPL.out _).mono ?_; rintro e w3 ⟨rfl, hbw3⟩; refine Stop.of ?_)
  refine Stop.go ?_
  have HB3 := hid (chain HB2.out hbw3)
  clear hbw3
  go_wp2
  refine ⟨fun _ => HS.out _ HB3.out, ?_⟩
  refine AnyT.next (i := 17) (by kernel_rfl) rfl (wpOp_of_list rfl ?_)
  go_wp2_with (go_at_call 151; refine (HT3.out _).mono ?_; rintro e w4 ⟨rfl, hbw4⟩; refine Stop.of ?_)
  refine Stop.go ?_
  have HB4 := hid (chain HB3.out hbw4)
  clear hbw4
  go_wp2
  refine ⟨fun _ => HS.out _ HB4.out, ?_⟩
  refine AnyT.next (i := 18) (by kernel_rfl) rfl (wpOp_of_list rfl ?_)
  go_wp2
  refine ⟨fun _ => HS.out _ HB4.out, ?_⟩
  refine AnyT.next (i := 19) (by kernel_rfl) rfl (wpOp_of_list rfl ?_)
  obtain ⟨c00, c01, c02, c03, hfz, hlt⟩ := HR.out _ HB4.out
  have f0 := hfz 0
  have f1 := hfz 1
  have f2 := hfz 2
  have f3 := hfz 3
  have HFI := hid (HFIN.out _ HB4.out)
  clear HFIN hfz
  go_wp2
  refine ⟨fun h => absurd h (by decide), ?_⟩
  refine AnyT.done (by kernel_rfl) ?_ _
  go_wp2
  refine bodyPost_ret (v := .agg #[.int .i64 s1, .int .u64 s2, .int .i64 c1, .int .u64 c2]) ?_ rfl ⟨rfl, HFI.out _ _ _ _⟩
  simp [results, Tryz.results96, go_sem, c00, c01, c02, c03, f0, f1, f2, f3, hlt]

theorem scompare_c (w : World) (n d y : Int) (hd : B127 d) (hy : -9223372036854775808 < y ∧ y ≤ 9223372036854775807) (h1 : B127 (d * y)) :
    Calls Tryz.prog 155 #[sumV n d, .int .i64 y] w fun e w' => e = .returned (.int .i64 (cmpI n (d * y))) ∧ Below w.heap.size w w' := by
  have HT := hid (fun X => wtimes_c X d y hd hy (by rw [← Int.natAbs_mul]; unfold B127 at h1; omega))
  have HC := hid (fun X => wcompare_c X n (d * y))
  obtain ⟨n1, n2, pn⟩ := WP.ex n
  obtain ⟨d1, d2, pd⟩ := WP.ex d
  obtain ⟨a1, a2, pA⟩ := WP.ex (d * y)
  rw [pd.val, pA.val] at HT
  rw [pn.val, pA.val] at HC
  rw [pn.sum pd]
  obtain ⟨c, hc⟩ : ∃ c, c = cmpI n (d * y) := ⟨_, rfl⟩
  rw [← hc] at HC ⊢
  clear hc hd hy h1 pn pd pA
  obtain ⟨wz, hwz⟩ : ∃ wz, wz = w.alloc (.cells #[.int .i64 n1, .int .u64 n2, .int .i64 d1, .int .u64 d2] 102) := ⟨_, rfl⟩
  have hbz : Below w.heap.size w wz := by rw [hwz]; exact (Below.refl _ _).alloc (Nat.le_refl _) _
  have hsz : w.heap.size < wz.heap.size := by rw [hwz]; simp
  have hcl : ∀ o v, (#[Value.int .i64 n1, .int .u64 n2, .int .i64 d1, .int .u64 d2] : Array Value)[o]? = some v → wz.cell? ⟨w.heap.size, o, none⟩ = some v := fun o v h => by
    rw [hwz, World.cell?_alloc_at _ _ _ _ rfl]; exact h
  have l0 := lift_cell hsz (hcl 0 _ rfl)
  have l1 := lift_cell hsz (hcl 1 _ rfl)
  have l2 := lift_cell hsz (hcl 2 _ rfl)
  have l3 := lift_cell hsz (hcl 3 _ rfl)
  have HBZ := hid hbz
  clear hbz hsz hcl
  go_enter Tryz.func155, Tryz.ntmps155
  go_wp2_with fail
  rw [← hwz]
  clear hwz
  refine region_lift (by kernel_rfl) (by kernel_rfl) ?_
  repeat (go_big_quiet_step (first
    | (go_at_call 151; exact lift_calls (HT.out _))
    | (go_at_call 207; exact lift_calls (HC.out _))))
  refine wpQuiet_nil ?_
  rintro _ ⟨X, rfl⟩
  have hfin := chain HBZ.out (lift_below wz X)
  go_wp2
  go_ret
  exact ⟨rfl, hfin⟩
end

section
open Go.RowKit Go.Lib
set_option linter.unusedVariables false
set_option linter.unusedSimpArgs false

def validR (r : Rt) : Bool := decide (1 ≤ r.2) && (decide (r.2 ≤ 400) && (decide (-10000000000 ≤ r.1) && (decide (r.1 ≤ 10000000000) && decide (Int.gcd r.1 r.2 = 1))))
theorem validR_iff {r : Rt} : validR r = true ↔ 1 ≤ r.2 ∧ r.2 ≤ 400 ∧ -10000000000 ≤ r.1 ∧ r.1 ≤ 10000000000 ∧ Int.gcd r.1 r.2 = 1 := by
  unfold validR; simp only [Bool.and_eq_true, decide_eq_true_eq]

set_option maxRecDepth 100000 in
theorem fvalid_c (w : World) (N D : Int) : Calls Tryz.prog 147 #[.agg #[.int .i64 N, .int .i64 D]] w fun e w' => e = .returned (.bool (validR (N, D))) ∧ Below w.heap.size w w' := by
  obtain ⟨wz, hwz⟩ : ∃ wz, wz = w.alloc (.cells #[.int .i64 N, .int .i64 D] 29) := ⟨_, rfl⟩
  have hbz : Below w.heap.size w wz := by rw [hwz]; exact (Below.refl _ _).alloc (Nat.le_refl _) _
  have l0 : wz.cell? ⟨w.heap.size, 0, none⟩ = some (.int .i64 N) := by rw [hwz, World.cell?_alloc_at _ _ _ _ rfl]; rfl
  have l1 : wz.cell? ⟨w.heap.size, 1, none⟩ = some (.int .i64 D) := by rw [hwz, World.cell?_alloc_at _ _ _ _ rfl]; rfl
  have HBZ := hid hbz
  have HV := hid (show validR (N, D) = (decide (1 ≤ D) && (decide (D ≤ 400) && (decide (-10000000000 ≤ N) && (decide (N ≤ 10000000000) && decide (Int.gcd N D = 1))))) from rfl)
  clear hbz
  by_cases h1 : 1 ≤ D
  · by_cases h2 : D ≤ 400
    · by_cases h3 : -10000000000 ≤ N
      · by_cases h4 : N ≤ 10000000000
        · have HD := hid (fun X => divisor_c X N D (by omega) (by omega))
          obtain ⟨g, hg⟩ : ∃ g : Int, g = ((Int.gcd N D : Nat) : Int) := ⟨_, rfl⟩
          rw [← hg] at HD
          have HB := hid (show validR (N, D) = (g == 1) from by
            rw [HV.out, decide_eq_true h1, decide_eq_true h2, decide_eq_true h3, decide_eq_true h4]
            simp only [Bool.true_and]
            rw [Bool.eq_iff_iff, decide_eq_true_iff]
            simp only [beq_iff_eq]
            omega)
          have d1 : decide (1 ≤ D) = true := by simp; omega
          have d2 : decide (D ≤ 400) = true := by simp; omega
          have d3 : decide (-10000000000 ≤ N) = true := by simp; omega
          have d4 : decide (N ≤ 10000000000) = true := by simp; omega
          clear hg HV
          go_enter Tryz.func147, Tryz.ntmps147
          go_wp2_with fail
          rw [← hwz]
          clear hwz
          go_wp2_with (go_at_call 206; refine (HD.out _).mono ?_; rintro e w2 ⟨rfl, k2, rfl⟩; refine Stop.of ?_)
          refine Stop.go ?_
          go_wp2
          go_ret
          exact ⟨ret_bool (by rw [HB.out]), below_drewN HBZ.out k2⟩
        · have HB := hid (show validR (N, D) = false from by rw [HV.out, decide_eq_false h4]; simp)
          have d4 : decide (N ≤ 10000000000) = false := by simp; omega
          clear HV
          go_enter Tryz.func147, Tryz.ntmps147
          go_wp2_with fail
          rw [← hwz]
          clear hwz
          go_wp2
          go_ret
          exact ⟨ret_bool (by rw [HB.out]), HBZ.out⟩
      · have HB := hid (show validR (N, D) = false from by rw [HV.out, decide_eq_false h3]; simp)
        have d3 : decide (-10000000000 ≤ N) = false := by simp; omega
        clear HV
        go_enter Tryz.func147, Tryz.ntmps147
        go_wp2_with fail
        rw [← hwz]
        clear hwz
        go_wp2
        go_ret
        exact ⟨ret_bool (by rw [HB.out]), HBZ.out⟩
    · have HB := hid (show validR (N, D) = false from by rw [HV.out, decide_eq_false h2]; simp)
      have d2 : decide (D ≤ 400) = false := by simp; omega
      clear HV
      go_enter Tryz.func147, Tryz.ntmps147
      go_wp2_with fail
      rw [← hwz]
      clear hwz
      go_wp2
      go_ret
      exact ⟨ret_bool (by rw [HB.out]), HBZ.out⟩
  · have HB := hid (show validR (N, D) = false from by rw [HV.out, decide_eq_false h1]; simp)
    have d1 : decide (1 ≤ D) = false := by simp; omega
    clear HV
    go_enter Tryz.func147, Tryz.ntmps147
    go_wp2_with fail
    rw [← hwz]
    clear hwz
    go_wp2
    go_ret
    exact ⟨ret_bool (by rw [HB.out]), HBZ.out⟩

theorem linvalid_c (w : World) (N D : Int) : Calls Tryz.prog 154 #[.agg #[.int .i64 N, .int .i64 D]] w fun e w' => e = .returned (.bool (!validR (N, D))) ∧ Below w.heap.size w w' := by
  obtain ⟨wz, hwz⟩ : ∃ wz, wz = w.alloc (.cells #[.int .i64 N, .int .i64 D] 29) := ⟨_, rfl⟩
  have HB := hid (show Below w.heap.size w wz by rw [hwz]; exact (Below.refl _ _).alloc (Nat.le_refl _) _)
  have l0 : wz.cell? ⟨w.heap.size, 0, none⟩ = some (.int .i64 N) := by rw [hwz, World.cell?_alloc_at _ _ _ _ rfl]; rfl
  have l1 : wz.cell? ⟨w.heap.size, 1, none⟩ = some (.int .i64 D) := by rw [hwz, World.cell?_alloc_at _ _ _ _ rfl]; rfl
  have HV := hid (fvalid_c wz N D)
  obtain ⟨b, hb⟩ : ∃ b, b = validR (N, D) := ⟨_, rfl⟩
  rw [← hb] at HV ⊢
  clear hb
  go_enter Tryz.func154, Tryz.ntmps154
  go_wp2_with fail
  rw [← hwz]
  clear hwz
  go_wp2_with (go_at_call 147; refine HV.out.mono ?_; rintro e w2 ⟨rfl, hb2⟩; refine Stop.of ?_)
  refine Stop.go ?_
  go_wp2
  go_ret
  exact ⟨rfl, chain HB.out hb2⟩

theorem indexInv (w : World) (a : Option Addr) (n cap : Nat) (l : List Rt) (hn : l.length = n) (hm : n ≤ maxLen) (H : RatsAt w a l) :
    Calls Tryz.prog 146 #[.slice a n cap, .func (.func 154) #[] #[]] w fun e w' => e = .returned (.int .i64 (idxP (fun r => !validR r) l 0)) ∧ Below w.heap.size w w' := by
  have HN := hid hn
  have HH := hid H
  have HP := hid (fun (X : World) (N D : Int) => linvalid_c X N D)
  have eg := enters_of Tryz.func154 (by kernel_rfl) rfl
  clear hn H
  unfold maxLen at hm
  go_enter Tryz.func146, Tryz.ntmps146
  go_wp2
  go_loopw [8] (fun i wr => ∃ k : Nat, k ≤ n ∧ i = .int .i64 k ∧ Below w.heap.size w wr ∧ ∀ i y, i < k → l[i]? = some y → (!validR y) = false) (fun i _ => n - (intOf i).toNat)
  case atStart => exact ⟨0, Nat.zero_le _, rfl, Below.refl _ _, fun i y h => by omega⟩
  case round =>
    obtain ⟨k, hk, rfl, hb, hno⟩ := hrel
    have HNO := hid hno
    clear hno
    by_cases hlt : k < n
    · have hkl : k < l.length := by rw [HN.out]; exact hlt
      obtain ⟨b, off, rfl, hbs, h0, h1⟩ := (HH.out.below hb) k hkl
      have HK := hid (List.getElem?_eq_getElem hkl)
      obtain ⟨⟨r1, r2⟩, hr⟩ : ∃ r, r = l[k]'hkl := ⟨_, rfl⟩
      rw [← hr] at h0 h1 HK
      simp only [] at h0 h1
      have HC := hid (HP.out wr r1 r2)
      obtain ⟨B, hB⟩ : ∃ B, B = validR (r1, r2) := ⟨_, rfl⟩
      rw [← hB] at HC
      have HBB := hid hB.symm
      clear hr hB hkl
      go_wp2_with (refine HC.out.mono ?_; rintro e w1 ⟨rfl, hb1⟩; refine Stop.of ?_)
      refine Stop.go ?_
      cases B
      · go_wp2
        go_ret
        refine ⟨ret_int ?_, chain hb hb1⟩
        rw [idxP_at (fun r => !validR r) l 0 k _ HK.out (by simp [HBB.out]) HNO.out]; simp
      · go_wp2
        refine ⟨⟨k + 1, by omega, by go_num, chain hb hb1, ?_⟩, by simp [intOf]; omega⟩
        intro i y hi hy
        by_cases e : i = k
        · subst e; rw [HK.out] at hy; cases hy; simp [HBB.out]
        · exact HNO.out i y (by omega) hy
    · go_wp2
      go_ret
      refine ⟨ret_int ?_, hb⟩
      rw [idxP_neg]
      intro x hx
      obtain ⟨i, hi, e⟩ := List.getElem_of_mem hx
      exact HNO.out i x (by have := HN.out; omega) (by rw [List.getElem?_eq_getElem hi, e])

theorem containsInv (w : World) (a : Option Addr) (n cap : Nat) (l : List Rt) (hn : l.length = n) (hm : n ≤ maxLen) (H : RatsAt w a l) :
    Calls Tryz.prog 80 #[.slice a n cap, .func (.func 154) #[] #[]] w fun e w' => e = .returned (.bool (!l.all validR)) ∧ Below w.heap.size w w' := by
  have HC := hid (indexInv w a n cap l hn hm H)
  have HG := idxP_ge (fun r => !validR r) l 0
  have HG' := hid HG
  clear hn H HG
  go_enter Tryz.func80, Tryz.ntmps80
  go_wp2_with (refine HC.out.mono ?_; rintro e w1 ⟨rfl, hb1⟩)
  go_ret
  refine ⟨ret_bool ?_, hb1⟩
  rw [Bool.eq_iff_iff, decide_eq_true_iff, HG'.out, List.not_all_eq_any_not]

theorem lreading_c (w : World) (a a2 : Option Addr) (n cap n2 cap2 : Nat) (M : Mask) (y : List Int) (hn : M.length = n) (hn2 : y.length = n2) (hm : n ≤ maxLen) (hm2 : n2 ≤ maxLen) (H : RowsAt w a M) (H2 : IntsAt w a2 y) :
    Calls Tryz.prog 153 #[.slice a n cap, .slice a2 n2 cap2] w fun e w' => e = .returned (.bool (decide (rdE M y = 0))) ∧ Below w.heap.size w w' := by
  have HC := hid (check_c w a a2 none n cap n2 cap2 0 0 M y [] hn hn2 rfl hm hm2 (by decide) H H2 (fun j hj => by simp at hj))
  rw [← rd_check] at HC
  obtain ⟨E, hE⟩ : ∃ E, E = rdE M y := ⟨_, rfl⟩
  rw [← hE] at HC ⊢
  clear hE hn hn2 H H2
  go_enter Tryz.func153, Tryz.ntmps153
  go_wp2_with (go_at_call 101; refine HC.out.mono ?_; rintro e w1 ⟨rfl, hb1⟩; refine Stop.of ?_)
  refine Stop.go ?_
  go_wp2
  go_ret
  exact ⟨ret_bool (by rw [Bool.eq_iff_iff]; simp), hb1⟩
end
end Go.Proofs.YtlffndehhhpgjaaGreat

namespace Go.Proofs.YtlffndehhhpgjaaGreat
open Go.RowKit
set_option linter.unusedVariables false
set_option linter.unusedSimpArgs false

theorem AnyT.weak {P : Program} {md : Region.Mode} {ops : Array Oper} {Q : Exit → Act → World → Prop} {T T' : Nat → World → Prop} (hT : ∀ j w, T' j w → T j w) : ∀ (fuel : Nat) (listed : Array Bool) (a : Act) (w : World), AnyT P md ops Q T' fuel listed a w → AnyT P md ops Q T fuel listed a w
  | 0, _, _, _, h => h
  | fuel + 1, listed, a, w, h => ⟨h.1, fun i hi => wpOp_mono (fun a' w' h' => ⟨hT _ _ h'.1, AnyT.weak hT fuel _ _ _ h'.2⟩) (h.2 i hi)⟩
theorem AnyT.takeG {P : Program} {md : Region.Mode} {ops : Array Oper} {Q : Exit → Act → World → Prop} {S : World → Prop} {T : Nat → World → Prop} {i d : Nat} {oi : Oper} {v : Value} {fuel : Nat} {listed : Array Bool} {a : Act} {w : World} {Wf : Nat → Bool} (hT : ∀ j w, T j w → Wf j = true → S w) (hTi : ∀ w, S w → T i w) (hi : ops[i]? = some oi) (hd : oi.dst = some d)
    (hs : Region.noSelect ops = true) (hf : Region.free md ops listed i = true) (hr : (Region.ready md ops listed).contains i = true)
    (hQ : ∀ c a w, Q (.panic c) (a.put (some d) v) w → Q (.panic c) a w)
    (hW : (List.range ops.size).all (fun j => waits md ops i j || Wf j) = true) (hw : Region.wanted oi (yielded ops a.tmps) = true) (hy : ∀ w, S w → (execOp a.eval oi).run P w = .ok (.value v) w) (hS : S w)
    (h : AnyT P md ops Q T fuel (listed.setIfInBounds i true) (a.put (some d) v) w) : AnyT P md ops Q T (fuel + 1) listed a w :=
  AnyT.take hi hs hf hr (by rw [hd]; exact hQ) (fun j hj w hT' => hT j w hT' (by
    by_cases e : j < ops.size
    · have := List.all_eq_true.1 hW j (List.mem_range.2 e)
      rw [hj] at this; simpa using this
    · unfold waits at hj; rw [Array.getElem?_eq_none (by omega)] at hj; cases hj)) hTi (.inl ⟨hw, hy⟩) hS (by rw [hd]; exact h)
end Go.Proofs.YtlffndehhhpgjaaGreat

namespace Go.Proofs.YtlffndehhhpgjaaGreat
open Go.RowKit
set_option linter.unusedVariables false
set_option linter.unusedSimpArgs false

def WideI (w : World) (g : Nat) (V : Int) : Prop := w.heap[g]? = some (.cells #[.int .i64 (V / 18446744073709551616), .int .u64 (V % 18446744073709551616)] 100 (0, 0))
theorem WideI.lt {w : World} {g : Nat} {V : Int} (h : WideI w g V) : g < w.heap.size := (Array.getElem?_eq_some_iff.1 h).1
theorem WideI.keep {w w' : World} {g : Nat} {V : Int} (h : WideI w g V) (hk : w'.heap[g]? = w.heap[g]?) : WideI w' g V := hk.trans h
theorem WideI.cells {w : World} {g : Nat} {V a b : Int} (h : WideI w g V) (p : WP V a b) : w.cell? ⟨g, 0, none⟩ = some (.int .i64 a) ∧ w.cell? ⟨g, 1, none⟩ = some (.int .u64 b) ∧ w.frozen? ⟨g, 0, none⟩ = false ∧ w.frozen? ⟨g, 1, none⟩ = false ∧ g < w.heap.size := by
  have hl := h.lt
  unfold WideI at h
  rw [p.1, p.2]
  exact ⟨by simp [World.cell?, h], by simp [World.cell?, h], by simp [World.frozen?, h], by simp [World.frozen?, h], hl⟩
theorem WideI.set {w : World} {g : Nat} {V U a b : Int} (h : WideI w g V) (p : WP U a b) : WideI ((w.setCell ⟨g, 0, none⟩ (.int .i64 a)).setCell ⟨g, 1, none⟩ (.int .u64 b)) g U := by
  have h1 := cells_set h 0 (v := .int .i64 a)
  have h2 := cells_set h1 1 (v := .int .u64 b)
  unfold WideI
  rw [h2, p.1, p.2]; rfl
theorem keep_set2 (w : World) (b : Nat) (x y : Value) : Keep (fun g => g ≠ b) w ((w.setCell ⟨b, 0, none⟩ x).setCell ⟨b, 1, none⟩ y) := (Keep.set w b 0 x).trans (Keep.set _ b 1 y)
theorem WideI.other {w : World} {g b : Nat} {V : Int} (h : WideI w g V) (hn : g ≠ b) (x y : Value) : WideI ((w.setCell ⟨b, 0, none⟩ x).setCell ⟨b, 1, none⟩ y) g V := h.keep ((keep_set2 w b x y).block g h.lt hn)
theorem WideI.made (w : World) {V a b : Int} (p : WP V a b) : WideI (w.alloc (.cells #[.int .i64 a, .int .u64 b] 100)) w.heap.size V := by
  unfold WideI
  rw [World.alloc_heap_new, p.1, p.2]

theorem two_pos (j : Nat) : (0 : Int) < 2 ^ j := Int.pow_pos (by decide)
def OverS (A B : Int) (j : Nat) (q r t : Int) : Prop := 0 ≤ q ∧ 0 ≤ r ∧ r < B ∧ 0 ≤ t ∧ t ≤ 1 ∧ (r + r + t < B → A / 2 ^ j / B = q + q ∧ A / 2 ^ j % B = r + r + t) ∧ (¬ r + r + t < B → A / 2 ^ j / B = q + q + 1 ∧ A / 2 ^ j % B = r + r + t - B)
theorem over_step {A B : Int} (hB : 0 < B) (hA : 0 ≤ A) (j : Nat) {q r t : Int} (hq : q = A / 2 ^ (j + 1) / B) (hr : r = A / 2 ^ (j + 1) % B) (ht : t = A / 2 ^ j % 2) :
    OverS A B j q r t := by
  have e : A / 2 ^ (j + 1) = A / 2 ^ j / 2 := by rw [Int.pow_succ, Int.ediv_ediv_of_nonneg (by have := two_pos j; omega)]
  obtain ⟨T, hT⟩ : ∃ T, T = A / 2 ^ j := ⟨_, rfl⟩
  have hT0 : 0 ≤ T := by rw [hT]; exact Int.ediv_nonneg hA (by have := two_pos j; omega)
  unfold OverS
  rw [e, ← hT] at hq hr
  rw [← hT] at ht ⊢
  have h1 := Int.emod_add_mul_ediv (T / 2) B
  have h2 := Int.emod_nonneg (T / 2) (show B ≠ 0 by omega)
  have h3 := Int.emod_lt_of_pos (T / 2) hB
  have h4 : 0 ≤ T / 2 / B := Int.ediv_nonneg (by omega) (by omega)
  rw [← hq, ← hr] at h1
  rw [← hr] at h2 h3
  rw [← hq] at h4
  have hTt : T = 2 * (r + B * q) + t := by omega
  refine ⟨h4, h2, h3, by omega, by omega, fun h => ?_, fun h => ?_⟩
  · have hx : T = (r + r + t) + (q + q) * B := by rw [hTt]; grind
    rw [hx, Int.add_mul_ediv_right _ _ (by omega), Int.ediv_eq_zero_of_lt (by omega) h, Int.add_mul_emod_self_right, Int.emod_eq_of_lt (by omega) h]
    omega
  · have hx : T = (r + r + t - B) + (q + q + 1) * B := by rw [hTt]; grind
    rw [hx, Int.add_mul_ediv_right _ _ (by omega), Int.ediv_eq_zero_of_lt (by omega) (by omega), Int.add_mul_emod_self_right, Int.emod_eq_of_lt (by omega) (by omega)]
    omega

theorem bit_low {A : Int} (hA : 0 ≤ A) {j : Nat} (hj : j < 64) : A % 18446744073709551616 / 2 ^ j % 2 = A / 2 ^ j % 2 := by
  have hp := two_pos j
  have e1 : (18446744073709551616 : Int) = 2 ^ j * (2 * 2 ^ (63 - j)) := by
    have : (2 : Int) ^ j * (2 * 2 ^ (63 - j)) = 2 ^ (j + (1 + (63 - j))) := by rw [Int.pow_add, Int.pow_add]; rfl
    rw [this, show j + (1 + (63 - j)) = 64 by omega]; rfl
  have h1 := Int.emod_add_mul_ediv A 18446744073709551616
  generalize A % 18446744073709551616 = a at *
  generalize A / 18446744073709551616 = h at *
  rw [← h1, e1]
  have e2 : a + 2 ^ j * (2 * 2 ^ (63 - j)) * h = a + 2 ^ j * (2 * (2 ^ (63 - j) * h)) := by grind
  rw [e2, Int.add_mul_ediv_left _ _ (by omega)]
  omega
theorem bit_high {A : Int} (j : Nat) (hj : 64 ≤ j) : A / 18446744073709551616 / 2 ^ (j - 64) = A / 2 ^ j := by
  rw [Int.ediv_ediv_of_nonneg (by decide)]
  congr 1
  have : (18446744073709551616 : Int) * 2 ^ (j - 64) = 2 ^ (64 + (j - 64)) := by rw [Int.pow_add]; rfl
  rw [this, show 64 + (j - 64) = j by omega]
theorem wsign_c (w : World) (V : Int) (hV : -170141183460469231731687303715884105728 < V ∧ V < 170141183460469231731687303715884105728) :
    Calls Tryz.prog 148 #[wideV V] w fun e w' => e = .returned (.int .i64 (cmpI V 0)) ∧ Below w.heap.size w w' := by
  have HC := hid (fun X => wcompare_c X V 0)
  have hw0 : wideV 0 = .agg #[.int .i64 0, .int .u64 0] := by simp [wideV]
  rw [hw0] at HC
  obtain ⟨a, b, p⟩ := WP.ex V
  rw [p.val] at HC ⊢
  obtain ⟨C, hC⟩ : ∃ C, C = cmpI V 0 := ⟨_, rfl⟩
  rw [← hC] at HC ⊢
  clear p hC hV hw0
  go_enter Tryz.func148, Tryz.ntmps148
  go_wp2_with (go_at_call 207; refine (HC.out _).mono ?_; rintro e w1 ⟨rfl, hb1⟩)
  go_ret
  exact ⟨rfl, chain ((Below.refl _ _).alloc (Nat.le_refl _) _) hb1⟩

set_option maxRecDepth 100000 in
set_option maxHeartbeats 4000000 in
theorem wover_c (w : World) (A B : Int) (hA : 0 ≤ A ∧ A < 170141183460469231731687303715884105728) (hB : 0 < B ∧ B < 85070591730234615865843651857942052864) :
    Calls Tryz.prog 150 #[wideV A, wideV B] w fun e w' => e = .returned (.tuple #[wideV (A / B), wideV (A % B)]) ∧ Below w.heap.size w w' := by
  obtain ⟨ah, al, pA⟩ := WP.ex A
  obtain ⟨bh, bl, pB⟩ := WP.ex B
  obtain ⟨s, hs⟩ : ∃ s, s = w.heap.size := ⟨_, rfl⟩
  obtain ⟨wz, hwz⟩ : ∃ wz, wz = (((w.alloc (.cells #[.int .i64 ah, .int .u64 al] 100)).alloc (.cells #[.int .i64 bh, .int .u64 bl] 100)).alloc (.cells #[.int .i64 0, .int .u64 0] 100)).alloc (.cells #[.int .i64 0, .int .u64 0] 100) := ⟨_, rfl⟩
  have p0 : WP 0 0 0 := ⟨by decide, by decide⟩
  have hbz : Below w.heap.size w wz := by rw [hwz]; exact ((((Below.refl _ _).alloc (Nat.le_refl _) _).alloc (by simp) _).alloc (by simp; omega) _).alloc (by simp; omega) _
  have hsz : wz.heap.size = s + 4 := by rw [hwz, hs]; simp
  have qa : WideI wz s A := by
    rw [hwz, hs]
    exact (((WideI.made w pA).keep (Below.heap_alloc _ _ _ (by simp))).keep (Below.heap_alloc _ _ _ (by simp; omega))).keep (Below.heap_alloc _ _ _ (by simp; omega))
  have qb : WideI wz (s + 1) B := by
    have h := WideI.made (w.alloc (.cells #[.int .i64 ah, .int .u64 al] 100)) pB
    rw [World.size_alloc] at h
    rw [hwz, hs]
    exact (h.keep (Below.heap_alloc _ _ _ (by simp))).keep (Below.heap_alloc _ _ _ (by simp))
  have qq : WideI wz (s + 2) 0 := by
    have h := WideI.made ((w.alloc (.cells #[.int .i64 ah, .int .u64 al] 100)).alloc (.cells #[.int .i64 bh, .int .u64 bl] 100)) p0
    rw [World.size_alloc, World.size_alloc] at h
    rw [hwz, hs]
    exact h.keep (Below.heap_alloc _ _ _ (by simp))
  have qr : WideI wz (s + 3) 0 := by
    have h := WideI.made (((w.alloc (.cells #[.int .i64 ah, .int .u64 al] 100)).alloc (.cells #[.int .i64 bh, .int .u64 bl] 100)).alloc (.cells #[.int .i64 0, .int .u64 0] 100)) p0
    rw [World.size_alloc, World.size_alloc, World.size_alloc] at h
    rw [hwz, hs]
    exact h
  have HST := hid (show ∀ j : Nat, OverS A B j (A / 2 ^ (j + 1) / B) (A / 2 ^ (j + 1) % B) (A / 2 ^ j % 2) from fun j => over_step hB.1 hA.1 j (q := A / 2 ^ (j + 1) / B) (r := A / 2 ^ (j + 1) % B) (t := A / 2 ^ j % 2) rfl rfl rfl)
  have HTOP := hid (show A / 2 ^ 128 / B = 0 ∧ A / 2 ^ 128 % B = 0 from by
    have e : A / 2 ^ 128 = 0 := Int.ediv_eq_zero_of_lt hA.1 (by have := hA.2; omega)
    rw [e]; simp)
  have hQB := hid (fun (j : Nat) => show A / 2 ^ j / B ≤ A from by
    have h1 : A / 2 ^ j ≤ A := Int.ediv_le_self _ hA.1
    have h2 : A / 2 ^ j / B ≤ A / 2 ^ j := Int.ediv_le_self _ (Int.ediv_nonneg hA.1 (by have := two_pos j; omega))
    omega)
  rw [pA.val, pB.val]
  have HBZ := hid hbz
  have HSZ := hid hsz
  have QA := hid qa
  have QB := hid qb
  have PA := hid pA
  have PB := hid pB
  clear hbz hsz qa qb
  go_enter Tryz.func150, Tryz.ntmps150
  go_wp2_with fail
  rw [← hs, ← hwz]
  have HSV := hid hs
  have HP0 := hid p0
  have HAA := hid hA
  have HBB := hid hB
  clear hwz hs p0 hA hB pA pB
  go_loopw [6] (fun i wr => ∃ k : Nat, k ≤ 128 ∧ i = .int .i64 ((k : Int) - 1) ∧ Keep (fun g => g ≠ s + 2 ∧ g ≠ s + 3) wz wr ∧ WideI wr (s + 2) (A / 2 ^ k / B) ∧ WideI wr (s + 3) (A / 2 ^ k % B)) (fun i _ => (intOf i + 1).toNat)
  case atStart => exact ⟨128, by omega, rfl, Keep.refl _ _, by rw [HTOP.out.1]; exact qq, by rw [HTOP.out.2]; exact qr⟩
  case round =>
    obtain ⟨k, hk, rfl, hkp, hq, hr⟩ := hrel
    have hsz := HSZ.out
    cases k with
    | succ j =>
      have hj0 : (((j + 1 : Nat) : Int) - 1) = (j : Int) := by omega
      rw [hj0]
      obtain ⟨q, hqe⟩ : ∃ q, q = A / 2 ^ (j + 1) / B := ⟨_, rfl⟩
      obtain ⟨r, hre⟩ : ∃ q, q = A / 2 ^ (j + 1) % B := ⟨_, rfl⟩
      obtain ⟨t, hte⟩ : ∃ q, q = A / 2 ^ j % 2 := ⟨_, rfl⟩
      have hst := HST.out j
      unfold OverS at hst
      rw [← hqe, ← hre, ← hte] at hst
      rw [← hqe] at hq
      rw [← hre] at hr
      have hA' := hkp.block s (by omega) (by show s ≠ s + 2 ∧ s ≠ s + 3; omega)
      have qa := QA.out.keep hA'
      obtain ⟨c0, c1, _, _, _⟩ := qa.cells PA.out
      have ht2 : 0 ≤ t ∧ t ≤ 1 := by omega
      have hqn := hst.2.2.2.2.2
      have hst2 : 0 ≤ r ∧ r < B := ⟨hst.2.1, hst.2.2.1⟩
      have QBW := hid (QB.out.keep (hkp.block (s + 1) (by omega) (by show s + 1 ≠ s + 2 ∧ s + 1 ≠ s + 3; omega)))
      have hqe' := hqe
      have hqq2' : q + q ≤ A := by
        rcases Int.lt_or_le (r + r + t) B with c | c
        · have := (hst.2.2.2.2.2.1 c).1; have := hQB.out j; omega
        · have := (hst.2.2.2.2.2.2 (by omega)).1; have := hQB.out j; omega
      have HSTP := hid hst
      have HQ := hid hq
      have HR := hid hr
      have HKP := hid hkp
      have hj127 : j ≤ 127 := by omega
      clear hst hq hr hkp qa hA' hj0 hqe hre hk
      obtain ⟨r1, r2, pr⟩ := WP.ex r
      obtain ⟨k1, k2, pk⟩ := WP.ex q
      obtain ⟨x1, x2, px⟩ := WP.ex (r + r)
      obtain ⟨y1, y2, py⟩ := WP.ex (r + r + t)
      obtain ⟨z1, z2, pz⟩ := WP.ex (q + q)
      have hr0 := HR.out
      obtain ⟨d0, d1, d2, d3, d4⟩ := hr0.cells pr
      have hq0 := HQ.out
      obtain ⟨e0, e1, e2, e3, e4⟩ := hq0.cells pk
      have hAA := HAA.out
      have hBB := HBB.out
      have hst := HSTP.out
      have hpt : wideV t = .agg #[.int .i64 0, .int .u64 t] := by
        unfold wideV
        rw [show t / 18446744073709551616 = 0 by omega, show t % 18446744073709551616 = t by omega]
      have hP1 := hid (show ∀ X : World, Calls Tryz.prog 161 #[.agg #[.int .i64 r1, .int .u64 r2], .agg #[.int .i64 r1, .int .u64 r2]] X fun e w' => e = .returned (.agg #[.int .i64 x1, .int .u64 x2]) ∧ Below X.heap.size X w' from fun X => by
        have := wplus_c X r r (by omega) (by omega) (by omega)
        rw [pr.val, px.val] at this; exact this)
      have hP2 := hid (show ∀ X : World, Calls Tryz.prog 161 #[.agg #[.int .i64 x1, .int .u64 x2], .agg #[.int .i64 0, .int .u64 t]] X fun e w' => e = .returned (.agg #[.int .i64 y1, .int .u64 y2]) ∧ Below X.heap.size X w' from fun X => by
        have := wplus_c X (r + r) t (by omega) (by omega) (by omega)
        rw [px.val, hpt, py.val] at this; exact this)
      have hqq : q ≤ A ∧ 0 ≤ q := ⟨by rw [hqe']; exact hQB.out _, hst.1⟩
      have hqq2 : q + q ≤ A := hqq2'
      have HQ0 := hid (And.intro hst.1 hqq2')
      have hP3 := hid (show ∀ X : World, Calls Tryz.prog 161 #[.agg #[.int .i64 k1, .int .u64 k2], .agg #[.int .i64 k1, .int .u64 k2]] X fun e w' => e = .returned (.agg #[.int .i64 z1, .int .u64 z2]) ∧ Below X.heap.size X w' from fun X => by
        have := wplus_c X q q (by omega) (by omega) (by omega)
        rw [pk.val, pz.val] at this; exact this)
      have hbit : (j < 64 → bits BinOp.and IntKind.u64 (al / 2 ^ j) 1 = t) ∧ (64 ≤ j → bits BinOp.and IntKind.u64 (ah / 2 ^ (j - 64)) 1 = t) ∧ IntKind.u64.wrap ah = ah := by
        have e1 := PA.out.1
        have e2 := PA.out.2
        refine ⟨fun h => ?_, fun h => ?_, ?_⟩
        · have h1 : 0 ≤ al / 2 ^ j := Int.ediv_nonneg (by omega) (by have := two_pos j; omega)
          have h2 : al / 2 ^ j ≤ al := Int.ediv_le_self _ (by omega)
          rw [and_one_u64 _ h1 (by omega), e2, hte]
          exact bit_low hAA.1 h
        · have h1 : 0 ≤ ah / 2 ^ (j - 64) := Int.ediv_nonneg (by omega) (by have := two_pos (j - 64); omega)
          have h2 : ah / 2 ^ (j - 64) ≤ ah := Int.ediv_le_self _ (by omega)
          rw [and_one_u64 _ h1 (by omega), e1, hte, bit_high j h]
        · rw [IntKind.wrap_u64]; omega
      obtain ⟨hb1, hb2, hb3⟩ := hbit
      have HCM := hid (show ∀ X : World, Calls Tryz.prog 207 #[.agg #[.int .i64 y1, .int .u64 y2], .agg #[.int .i64 bh, .int .u64 bl]] X fun e w' => e = .returned (.int .i64 (cmpI (r + r + t) B)) ∧ Below X.heap.size X w' from fun X => by
        have := wcompare_c X (r + r + t) B
        rw [py.val, PB.out.val] at this; exact this)
      have PR := hid pr
      have PK := hid pk
      have PZ := hid pz
      clear hst hAA hBB hpt hqq hqq2 hqe' hqq2' hte pr pk px pz hr0 hq0
      have PY := hid py
      clear py
      have HQN := hid hqn
      have HST2 := hid hst2
      have HK := hid (fun (X : World) (hX : Below wr.heap.size wr X) => And.intro (HR.out.keep (hX.block _ HR.out.lt)) (And.intro (HQ.out.keep (hX.block _ HQ.out.lt)) (QBW.out.keep (hX.block _ QBW.out.lt))))
      have HSL := hid (And.intro HR.out.lt (And.intro HQ.out.lt QBW.out.lt))
      clear hqn hst2
      have h64 : (j < 64 ∧ bits BinOp.and IntKind.u64 (al / 2 ^ j) 1 = t) ∨ (¬ j < 64 ∧ bits BinOp.and IntKind.u64 (ah / 2 ^ (j - 64)) 1 = t) := by
        by_cases h : j < 64
        · exact .inl ⟨h, hb1 h⟩
        · exact .inr ⟨h, hb2 (by omega)⟩
      clear hb1 hb2
      rcases h64 with ⟨h64, hb1⟩ | ⟨h64, hb1⟩
      all_goals
        go_upto_region 7 with fail
        clear hb1 hb3
        go_wp2_with (go_at_call 161; refine (hP1.out _).mono ?_; rintro e w1 ⟨rfl, hb1⟩; refine Stop.of ?_)
        refine Stop.go ?_
        have HB1 := hid hb1
        clear hb1
        go_wp2_with (go_at_call 161; refine (hP2.out _).mono ?_; rintro e w2 ⟨rfl, hb2⟩; refine Stop.of ?_)
        refine Stop.go ?_
        have HB2 := hid (chain HB1.out hb2)
        clear hb2 d0 d1 d2 d3 d4 e0 e1 e2 e3 e4
        obtain ⟨m1, m2, m3⟩ := HK.out _ HB2.out
        obtain ⟨a0, a1, a2, a3, a4⟩ := m1.cells PR.out
        have M1 := hid (WideI.set m1 PY.out)
        have M2 := hid (m2.other (b := s + 3) (by omega) (.int .i64 y1) (.int .u64 y2))
        have M3 := hid (m3.other (b := s + 3) (by omega) (.int .i64 y1) (.int .u64 y2))
        have KP := hid (show Keep (fun g => g ≠ s + 2 ∧ g ≠ s + 3) wr ((w2.setCell ⟨s + 3, 0, none⟩ (.int .i64 y1)).setCell ⟨s + 3, 1, none⟩ (.int .u64 y2)) from (Keep.of_below HB2.out : Keep (fun g => g ≠ s + 2 ∧ g ≠ s + 3) _ _).trans ((keep_set2 w2 (s + 3) _ _).mono fun g h => h.2))
        obtain ⟨v0, v1, v2, v3, v4⟩ := M1.out.cells PY.out
        obtain ⟨g0, g1, g2, g3, g4⟩ := M2.out.cells PK.out
        clear m1 m2 m3
        go_wp2_with (go_at_call 161; refine (hP3.out _).mono ?_; rintro e w3 ⟨rfl, hb3⟩; refine Stop.of ?_)
        refine Stop.go ?_
        have HB3 := hid hb3
        have L1 := hid (M1.out.keep (hb3.block _ M1.out.lt))
        have L2 := hid (M2.out.keep (hb3.block _ M2.out.lt))
        have L3 := hid (M3.out.keep (hb3.block _ M3.out.lt))
        clear hb3 v0 v1 v2 v3 v4 g0 g1 g2 g3 g4 a0 a1 a2 a3 a4
        obtain ⟨g0, g1, g2, g3, g4⟩ := L2.out.cells PK.out
        have N2 := hid (WideI.set L2.out PZ.out)
        have N1 := hid (L1.out.other (b := s + 2) (by omega) (.int .i64 z1) (.int .u64 z2))
        have N3 := hid (L3.out.other (b := s + 2) (by omega) (.int .i64 z1) (.int .u64 z2))
        have KN := hid (KP.out.trans ((Keep.of_below HB3.out : Keep (fun g => g ≠ s + 2 ∧ g ≠ s + 3) _ _).trans ((keep_set2 w3 (s + 2) (.int .i64 z1) (.int .u64 z2)).mono fun g h => h.1)))
        obtain ⟨v0, v1, v2, v3, v4⟩ := N1.out.cells PY.out
        obtain ⟨i0, i1, i2, i3, i4⟩ := N3.out.cells PB.out
        go_wp2_with (go_at_call 207; refine (HCM.out _).mono ?_; rintro e w4 ⟨rfl, hb4⟩; refine Stop.of ?_)
        refine Stop.go ?_
        have HB4 := hid hb4
        have O1 := hid (N1.out.keep (hb4.block _ N1.out.lt))
        have O2 := hid (N2.out.keep (hb4.block _ N2.out.lt))
        have O3 := hid (N3.out.keep (hb4.block _ N3.out.lt))
        have KO := hid (KN.out.trans (Keep.of_below hb4 : Keep (fun g => g ≠ s + 2 ∧ g ≠ s + 3) _ _))
        clear hb4 v0 v1 v2 v3 v4 g0 g1 g2 g3 g4 i0 i1 i2 i3 i4
        by_cases hcb : r + r + t < B
        · have hc1 : ¬ 0 ≤ cmpI (r + r + t) B := by unfold cmpI; rw [if_pos hcb]; decide
          go_wp2
          obtain ⟨n1, n2⟩ := HQN.out.1 hcb
          exact ⟨⟨j, by omega, rfl, HKP.out.trans KO.out, by rw [n1]; exact O2.out, by rw [n2]; exact O1.out⟩, by simp [intOf]⟩
        · have hc1 : 0 ≤ cmpI (r + r + t) B := by unfold cmpI; rw [if_neg hcb]; split <;> decide
          obtain ⟨o1, o2, po⟩ := WP.ex (-B)
          obtain ⟨f1, f2, pf⟩ := WP.ex (r + r + t - B)
          obtain ⟨h1, h2, ph⟩ := WP.ex (q + q + 1)
          have hBB := HBB.out
          have hAA := HAA.out
          have hst2 := HST2.out
          have hq0 := HQ0.out
          have hw1 : wideV 1 = .agg #[.int .i64 0, .int .u64 1] := by simp [wideV]
          have HC1 := hid (show ∀ X : World, Calls Tryz.prog 149 #[.agg #[.int .i64 bh, .int .u64 bl]] X fun e w' => e = .returned (.agg #[.int .i64 o1, .int .u64 o2]) ∧ Below X.heap.size X w' from fun X => by
            have := wopp_c X B (by omega)
            rw [PB.out.val, po.val] at this; exact this)
          have HC2 := hid (show ∀ X : World, Calls Tryz.prog 161 #[.agg #[.int .i64 y1, .int .u64 y2], .agg #[.int .i64 o1, .int .u64 o2]] X fun e w' => e = .returned (.agg #[.int .i64 f1, .int .u64 f2]) ∧ Below X.heap.size X w' from fun X => by
            have := wplus_c X (r + r + t) (-B) (by omega) (by omega) (by omega)
            rw [show r + r + t + -B = r + r + t - B by omega] at this
            rw [PY.out.val, po.val, pf.val] at this; exact this)
          have HC3 := hid (show ∀ X : World, Calls Tryz.prog 161 #[.agg #[.int .i64 z1, .int .u64 z2], .agg #[.int .i64 0, .int .u64 1]] X fun e w' => e = .returned (.agg #[.int .i64 h1, .int .u64 h2]) ∧ Below X.heap.size X w' from fun X => by
            have := wplus_c X (q + q) 1 (by omega) (by omega) (by omega)
            rw [PZ.out.val, hw1, ph.val] at this; exact this)
          have PF := hid pf
          have PH := hid ph
          clear po pf ph hBB hAA hst2 hq0 hw1 ht2
          go_wp2
          refine plain_region (fun j X => decide (j < 8 ∧ j ≠ 5) = true → X.cell? ⟨s + 2, 0, none⟩ = some (.int .i64 z1) ∧ X.cell? ⟨s + 2, 1, none⟩ = some (.int .u64 z2)) (by kernel_rfl) ?_
          have HS := hid (show ∀ X : World, Below w4.heap.size w4 X → X.cell? ⟨s + 3, 0, none⟩ = some (.int .i64 y1) ∧ X.cell? ⟨s + 3, 1, none⟩ = some (.int .u64 y2) ∧ X.cell? ⟨s + 1, 0, none⟩ = some (.int .i64 bh) ∧ X.cell? ⟨s + 1, 1, none⟩ = some (.int .u64 bl) ∧ X.cell? ⟨s + 2, 0, none⟩ = some (.int .i64 z1) ∧ X.cell? ⟨s + 2, 1, none⟩ = some (.int .u64 z2) from fun X hX => by
            obtain ⟨a0, a1, _⟩ := (O1.out.keep (hX.block _ O1.out.lt)).cells PY.out
            obtain ⟨b0, b1, _⟩ := (O3.out.keep (hX.block _ O3.out.lt)).cells PB.out
            obtain ⟨c0, c1, _⟩ := (O2.out.keep (hX.block _ O2.out.lt)).cells PZ.out
            exact ⟨a0, a1, b0, b1, c0, c1⟩)
          have hbd : Below w4.heap.size w4 w4.drew := (Below.refl _ _).drew
          generalize w4.drew = wd at hbd ⊢
          have hS := HS.out _ hbd
          refine AnyT.takeG (i := 5) (v := .agg #[.int .i64 0, .int .u64 1]) (S := fun X => True) (Wf := fun j => true) (fun j w' h hj => trivial) (fun w' h h5 => absurd h5 (by decide)) rfl rfl (by kernel_rfl) (by kernel_rfl) (by kernel_rfl) (by first | exact (fun _ _ _ h => h) | exact (fun _ _ _ h => absurd h.1 (by simp))) (by kernel_rfl) (by rfl) (by rintro w' _; go_simp) trivial ?_; go_frame
          refine AnyT.weak (T := fun j X => decide (j < 8 ∧ j ≠ 5) = true → X.cell? ⟨s + 2, 0, none⟩ = some (.int .i64 z1) ∧ X.cell? ⟨s + 2, 1, none⟩ = some (.int .u64 z2)) (T' := fun j X => decide (j < 8) = true → X.cell? ⟨s + 2, 0, none⟩ = some (.int .i64 z1) ∧ X.cell? ⟨s + 2, 1, none⟩ = some (.int .u64 z2)) (fun j X h (hj : decide (j < 8 ∧ j ≠ 5) = true) => h (decide_eq_true (of_decide_eq_true hj).1)) _ _ _ _ ?_
          refine AnyT.takeD (i := 4) (v := .agg #[.int .i64 z1, .int .u64 z2]) rfl rfl (by kernel_rfl) (by kernel_rfl) (by kernel_rfl) (by first | exact (fun _ _ _ h => h) | exact (fun _ _ _ h => absurd h.1 (by simp))) (by kernel_rfl) (by rfl) (by rintro w' ⟨q5, q6⟩; go_simp) hS.2.2.2.2 ?_; go_frame
          refine AnyT.weak (T' := fun j X => (decide (j < 7) = true → X.cell? ⟨s + 3, 0, none⟩ = some (.int .i64 y1) ∧ X.cell? ⟨s + 3, 1, none⟩ = some (.int .u64 y2) ∧ X.cell? ⟨s + 1, 0, none⟩ = some (.int .i64 bh) ∧ X.cell? ⟨s + 1, 1, none⟩ = some (.int .u64 bl) ∧ X.cell? ⟨s + 2, 0, none⟩ = some (.int .i64 z1) ∧ X.cell? ⟨s + 2, 1, none⟩ = some (.int .u64 z2)) ∧ (decide (j < 8) = true → X.cell? ⟨s + 2, 0, none⟩ = some (.int .i64 z1) ∧ X.cell? ⟨s + 2, 1, none⟩ = some (.int .u64 z2))) (fun j X h => h.2) _ _ _ _ ?_
          refine AnyT.takeG (i := 0) (v := .agg #[.int .i64 y1, .int .u64 y2]) (S := fun X => X.cell? ⟨s + 3, 0, none⟩ = some (.int .i64 y1) ∧ X.cell? ⟨s + 3, 1, none⟩ = some (.int .u64 y2) ∧ X.cell? ⟨s + 1, 0, none⟩ = some (.int .i64 bh) ∧ X.cell? ⟨s + 1, 1, none⟩ = some (.int .u64 bl) ∧ X.cell? ⟨s + 2, 0, none⟩ = some (.int .i64 z1) ∧ X.cell? ⟨s + 2, 1, none⟩ = some (.int .u64 z2)) (Wf := fun j => decide (j < 7)) (fun j w' h hj => h.1 hj) (fun w' h => ⟨fun _ => h, fun _ => h.2.2.2.2⟩) rfl rfl (by kernel_rfl) (by kernel_rfl) (by kernel_rfl) (by first | exact (fun _ _ _ h => h) | exact (fun _ _ _ h => absurd h.1 (by simp))) (by kernel_rfl) (by rfl) (by rintro w' ⟨q1, q2, q3, q4, q5, q6⟩; go_simp) hS ?_; go_frame
          refine AnyT.takeG (i := 1) (v := .agg #[.int .i64 bh, .int .u64 bl]) (S := fun X => X.cell? ⟨s + 3, 0, none⟩ = some (.int .i64 y1) ∧ X.cell? ⟨s + 3, 1, none⟩ = some (.int .u64 y2) ∧ X.cell? ⟨s + 1, 0, none⟩ = some (.int .i64 bh) ∧ X.cell? ⟨s + 1, 1, none⟩ = some (.int .u64 bl) ∧ X.cell? ⟨s + 2, 0, none⟩ = some (.int .i64 z1) ∧ X.cell? ⟨s + 2, 1, none⟩ = some (.int .u64 z2)) (Wf := fun j => decide (j < 7)) (fun j w' h hj => h.1 hj) (fun w' h => ⟨fun _ => h, fun _ => h.2.2.2.2⟩) rfl rfl (by kernel_rfl) (by kernel_rfl) (by kernel_rfl) (by first | exact (fun _ _ _ h => h) | exact (fun _ _ _ h => absurd h.1 (by simp))) (by kernel_rfl) (by rfl) (by rintro w' ⟨q1, q2, q3, q4, q5, q6⟩; go_simp) hS ?_; go_frame
          refine AnyT.next (i := 2) (by kernel_rfl) rfl (wpOp_of_list rfl ?_)
          go_wp2_with (go_at_call 149; refine (HC1.out _).mono ?_; rintro e w5 ⟨rfl, hb5⟩; refine Stop.of ?_)
          refine Stop.go ?_
          have HB5 := hid (chain hbd hb5)
          clear hb5 hS
          go_wp2
          refine ⟨⟨fun _ => HS.out _ HB5.out, fun _ => (HS.out _ HB5.out).2.2.2.2⟩, ?_⟩
          refine AnyT.next (i := 3) (by kernel_rfl) rfl (wpOp_of_list rfl ?_)
          go_wp2_with (go_at_call 161; refine (HC2.out _).mono ?_; rintro e w6 ⟨rfl, hb6⟩; refine Stop.of ?_)
          refine Stop.go ?_
          have HB6 := hid (chain HB5.out hb6)
          clear hb6
          go_wp2
          refine ⟨⟨fun _ => HS.out _ HB6.out, fun _ => (HS.out _ HB6.out).2.2.2.2⟩, ?_⟩
          refine AnyT.next (i := 6) (by kernel_rfl) rfl (wpOp_of_list rfl ?_)
          go_wp2_with (go_at_call 161; refine (HC3.out _).mono ?_; rintro e w7 ⟨rfl, hb7⟩; refine Stop.of ?_)
          refine Stop.go ?_
          have HB7 := hid (chain HB6.out hb7)
          clear hb7
          have R1 := hid (O1.out.keep (HB7.out.block _ O1.out.lt))
          have R2 := hid (O2.out.keep (HB7.out.block _ O2.out.lt))
          go_wp2
          refine ⟨⟨fun _ => HS.out _ HB7.out, fun _ => (HS.out _ HB7.out).2.2.2.2⟩, ?_⟩
          obtain ⟨v0, v1, v2, v3, v4⟩ := R1.out.cells PY.out
          have V1 := hid (WideI.set R1.out PF.out)
          have V2 := hid (R2.out.other (b := s + 3) (by omega) (.int .i64 f1) (.int .u64 f2))
          refine AnyT.next (i := 7) (by kernel_rfl) rfl (wpOp_of_list rfl ?_)
          go_wp2
          clear v0 v1 v2 v3 v4
          obtain ⟨g0, g1, g2, g3, g4⟩ := V2.out.cells PZ.out
          refine ⟨⟨fun h => absurd h (by decide), fun _ => ⟨g0, g1⟩⟩, ?_⟩
          have X2 := hid (WideI.set V2.out PH.out)
          have X1 := hid (V1.out.other (b := s + 2) (by omega) (.int .i64 h1) (.int .u64 h2))
          have KX := hid (KO.out.trans ((Keep.of_below HB7.out : Keep (fun g => g ≠ s + 2 ∧ g ≠ s + 3) _ _).trans (((keep_set2 w7 (s + 3) (.int .i64 f1) (.int .u64 f2)).mono fun g h => h.2).trans ((keep_set2 _ (s + 2) (.int .i64 h1) (.int .u64 h2)).mono fun g h => h.1))))
          refine AnyT.next (i := 8) (by kernel_rfl) rfl (wpOp_of_list rfl ?_)
          go_wp2
          refine ⟨⟨fun h => absurd h (by decide), fun h => absurd h (by decide)⟩, ?_⟩
          refine AnyT.done (by kernel_rfl) ?_ _
          go_wp2
          obtain ⟨n1, n2⟩ := HQN.out.2 (by omega)
          exact ⟨⟨j, by omega, rfl, HKP.out.trans KX.out, by rw [n1]; exact X2.out, by rw [n2]; exact X1.out⟩, by simp [intOf]⟩
    | zero =>
      rw [Int.pow_zero, Int.ediv_one] at hq hr
      have HQ := hid hq
      have HR := hid hr
      have HKP := hid hkp
      obtain ⟨q1, q2, pq⟩ := WP.ex (A / B)
      obtain ⟨r1, r2, pr⟩ := WP.ex (A % B)
      have PQ := hid pq
      have PR := hid pr
      have hm1 : ((0 : Nat) : Int) - 1 = -1 := by decide
      rw [hm1]
      have HVQ := hid pq.val
      have HVR := hid pr.val
      clear hq hr hkp pq pr hm1
      go_wp2
      refine plain_region (fun j X => wAll j = true → X.cell? ⟨s + 2, 0, none⟩ = some (.int .i64 q1) ∧ X.cell? ⟨s + 2, 1, none⟩ = some (.int .u64 q2) ∧ X.cell? ⟨s + 3, 0, none⟩ = some (.int .i64 r1) ∧ X.cell? ⟨s + 3, 1, none⟩ = some (.int .u64 r2)) (by kernel_rfl) ?_
      have hbd : Below wr.heap.size wr wr.drew := (Below.refl _ _).drew
      have G2 := hid (HQ.out.keep (hbd.block _ HQ.out.lt))
      have G3 := hid (HR.out.keep (hbd.block _ HR.out.lt))
      have KD := hid (HKP.out.trans (Keep.of_below hbd : Keep (fun g => g ≠ s + 2 ∧ g ≠ s + 3) _ _))
      generalize wr.drew = wd at G2 G3 KD ⊢
      obtain ⟨a0, a1, a2, a3, a4⟩ := G2.out.cells PQ.out
      obtain ⟨b0, b1, b2, b3, b4⟩ := G3.out.cells PR.out
      have hS : wd.cell? ⟨s + 2, 0, none⟩ = some (.int .i64 q1) ∧ wd.cell? ⟨s + 2, 1, none⟩ = some (.int .u64 q2) ∧ wd.cell? ⟨s + 3, 0, none⟩ = some (.int .i64 r1) ∧ wd.cell? ⟨s + 3, 1, none⟩ = some (.int .u64 r2) := ⟨a0, a1, b0, b1⟩
      refine AnyT.takeD (i := 0) (v := .agg #[.int .i64 q1, .int .u64 q2]) rfl rfl (by kernel_rfl) (by kernel_rfl) (by kernel_rfl) (by first | exact (fun _ _ _ h => h) | exact (fun _ _ _ h => absurd h.1 (by simp))) (by kernel_rfl) (by rfl) (by rintro w' ⟨x1, x2, x3, x4⟩; go_simp) hS ?_; go_frame
      refine AnyT.takeD (i := 1) (v := .agg #[.int .i64 r1, .int .u64 r2]) rfl rfl (by kernel_rfl) (by kernel_rfl) (by kernel_rfl) (by first | exact (fun _ _ _ h => h) | exact (fun _ _ _ h => absurd h.1 (by simp))) (by kernel_rfl) (by rfl) (by rintro w' ⟨x1, x2, x3, x4⟩; go_simp) hS ?_; go_frame
      have M2 := hid (WideI.set G2.out PQ.out)
      have M3 := hid (G3.out.other (b := s + 2) (by omega) (.int .i64 q1) (.int .u64 q2))
      refine AnyT.next (i := 2) (by kernel_rfl) rfl (wpOp_of_list rfl ?_)
      go_wp2
      clear a0 a1 a2 a3 a4 b0 b1 b2 b3 b4 hS
      obtain ⟨a0, a1, a2, a3, a4⟩ := M2.out.cells PQ.out
      obtain ⟨b0, b1, b2, b3, b4⟩ := M3.out.cells PR.out
      refine ⟨fun _ => ⟨a0, a1, b0, b1⟩, ?_⟩
      have N3 := hid (WideI.set M3.out PR.out)
      have N2 := hid (M2.out.other (b := s + 3) (by omega) (.int .i64 r1) (.int .u64 r2))
      have KN := hid (KD.out.trans (((keep_set2 wd (s + 2) (.int .i64 q1) (.int .u64 q2)).mono fun g h => h.1).trans ((keep_set2 _ (s + 3) (.int .i64 r1) (.int .u64 r2)).mono fun g h => h.2)))
      refine AnyT.next (i := 3) (by kernel_rfl) rfl (wpOp_of_list rfl ?_)
      go_wp2
      clear a0 a1 a2 a3 a4 b0 b1 b2 b3 b4
      obtain ⟨a0, a1, a2, a3, a4⟩ := N2.out.cells PQ.out
      obtain ⟨b0, b1, b2, b3, b4⟩ := N3.out.cells PR.out
      refine ⟨fun _ => ⟨a0, a1, b0, b1⟩, ?_⟩
      refine AnyT.done (by kernel_rfl) ?_ _
      have HFB := hid (KN.out.below HBZ.out (by have := HSV.out; omega) (fun k hk => by have := HSV.out; omega))
      go_wp2
      change bodyPost _ _ _ _ _ ((((wd.setCell ⟨s + 2, 0, none⟩ (.int .i64 q1)).setCell ⟨s + 2, 1, none⟩ (.int .u64 q2)).setCell ⟨s + 3, 0, none⟩ (.int .i64 r1)).setCell ⟨s + 3, 1, none⟩ (.int .u64 r2))
      generalize (((wd.setCell ⟨s + 2, 0, none⟩ (.int .i64 q1)).setCell ⟨s + 2, 1, none⟩ (.int .u64 q2)).setCell ⟨s + 3, 0, none⟩ (.int .i64 r1)).setCell ⟨s + 3, 1, none⟩ (.int .u64 r2) = WF at *
      refine bodyPost_ret (v := .tuple #[.agg #[.int .i64 q1, .int .u64 q2], .agg #[.int .i64 r1, .int .u64 r2]]) ?_ rfl ⟨by rw [HVQ.out, HVR.out], HFB.out⟩
      simp [results, Tryz.results150, go_sem, a0, a1, a2, a3, a4, b0, b1, b2, b3, b4]
end Go.Proofs.YtlffndehhhpgjaaGreat

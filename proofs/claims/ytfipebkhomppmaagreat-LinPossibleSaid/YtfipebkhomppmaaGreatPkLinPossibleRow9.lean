/- Walks and plain laws for LinPossibleRow, part 9. -/
import Derived.Laws.Externs
import Derived.BigQuiet
import Derived.Test.YtfipebkhomppmaaGreatPkLinPossibleRow8
namespace Go.Proofs.YtfipebkhomppmaaGreat
section
open Go.RowKit Go.Lib
set_option linter.unusedVariables false

theorem AnyT.nextB {P : Program} {md : Region.Mode} {ops : Array Oper} {Q : Exit → Act → World → Prop} {T : Nat → World → Prop} {i j : Nat} {fuel : Nat} {listed : Array Bool} {a : Act} {w : World} (hr : Region.ready md ops listed = [i, j])
    (h1 : wpOp P ops Q i (fun a' w' => T i w' ∧ AnyT P md ops Q T fuel (listed.setIfInBounds i true) a' w') a w)
    (h2 : wpOp P ops Q j (fun a' w' => T j w' ∧ AnyT P md ops Q T fuel (listed.setIfInBounds j true) a' w') a w) : AnyT P md ops Q T (fuel + 1) listed a w :=
  ⟨fun h0 => (by rw [hr] at h0; cases h0), fun k hk => by
    rw [hr] at hk
    have : k = i ∨ k = j := by simpa using hk
    rcases this with rfl | rfl
    · exact h1
    · exact h2⟩

theorem add64 (x y b : Int) (hx : 0 ≤ x) (hx' : x < 18446744073709551616) (hy : 0 ≤ y) (hy' : y < 18446744073709551616) (hb0 : 0 ≤ b) (hb : b ≤ 1) (w : World) : (callFunc 98 #[.int .u64 x, .int .u64 y, .int .u64 b]).run Tryz.prog w =
    .ok (.value (.tuple #[.int .u64 ((x + y + b) % 18446744073709551616), .int .u64 ((x + y + b) / 18446744073709551616)])) w := by
  rw [run_callFunc_extern Tryz.func98 (by kernel_rfl) (by kernel_rfl) (by kernel_rfl) (e := add64Entry) (by kernel_rfl), run_add64 x y b (by omega) (by omega) (by omega) (by omega)]
  simp only [Result.andThen]

theorem wplus_c (w : World) (V U : Int) (h : -170141183460469231731687303715884105728 ≤ V + U ∧ V + U < 170141183460469231731687303715884105728) (hV : -170141183460469231731687303715884105728 ≤ V ∧ V < 170141183460469231731687303715884105728) (hU : -170141183460469231731687303715884105728 ≤ U ∧ U < 170141183460469231731687303715884105728) :
    Calls Tryz.prog 65 #[wideV V, wideV U] w fun e w' => e = .returned (wideV (V + U)) ∧ Below w.heap.size w w' := by
  unfold wideV
  obtain ⟨a, ha⟩ : ∃ a, a = V / 18446744073709551616 := ⟨_, rfl⟩
  obtain ⟨b, hb⟩ : ∃ a, a = V % 18446744073709551616 := ⟨_, rfl⟩
  obtain ⟨c, hc⟩ : ∃ a, a = U / 18446744073709551616 := ⟨_, rfl⟩
  obtain ⟨d, hd⟩ : ∃ a, a = U % 18446744073709551616 := ⟨_, rfl⟩
  obtain ⟨r1, hr1⟩ : ∃ a, a = (V + U) / 18446744073709551616 := ⟨_, rfl⟩
  obtain ⟨r2, hr2⟩ : ∃ a, a = (V + U) % 18446744073709551616 := ⟨_, rfl⟩
  obtain ⟨k, hk⟩ : ∃ k, k = (b + d + 0) / 18446744073709551616 := ⟨_, rfl⟩
  obtain ⟨a', ha'⟩ : ∃ k, k = IntKind.u64.wrap a := ⟨_, rfl⟩
  obtain ⟨c', hc'⟩ : ∃ k, k = IntKind.u64.wrap c := ⟨_, rfl⟩
  have ea : a' = a % 18446744073709551616 := by rw [ha', IntKind.wrap_u64]
  have ec : c' = c % 18446744073709551616 := by rw [hc', IntKind.wrap_u64]
  obtain ⟨s, hs⟩ : ∃ s, s = (a' + c' + k) % 18446744073709551616 := ⟨_, rfl⟩
  obtain ⟨t, ht⟩ : ∃ s, s = (a' + c' + k) / 18446744073709551616 := ⟨_, rfl⟩
  have k0 : 0 ≤ k ∧ k ≤ 1 := by omega
  have s1 : ∀ w, (callFunc 98 #[.int .u64 b, .int .u64 d, .int .u64 0]).run Tryz.prog w = .ok (.value (.tuple #[.int .u64 r2, .int .u64 k])) w := fun w => by
    rw [add64 b d 0 (by omega) (by omega) (by omega) (by omega) (by decide) (by decide), ← hk, show (b + d + 0) % 18446744073709551616 = r2 by omega]
  have s2 : ∀ w, (callFunc 98 #[.int .u64 a', .int .u64 c', .int .u64 k]).run Tryz.prog w = .ok (.value (.tuple #[.int .u64 s, .int .u64 t])) w := fun w => by
    rw [add64 a' c' k (by omega) (by omega) (by omega) (by omega) k0.1 k0.2, ← hs, ← ht]
  have hw : IntKind.i64.wrap s = r1 := by rw [IntKind.wrap_i64]; omega
  have ha2 : IntKind.u64.wrap a = a' := ha'.symm
  have hc2 : IntKind.u64.wrap c = c' := hc'.symm
  rw [← ha, ← hb, ← hc, ← hd, ← hr1, ← hr2]
  clear ha hb hc hd hr1 hr2 hk ha' hc' ea ec hs ht k0 h hV hU
  go_enter Tryz.func65, Tryz.ntmps65
  go_wp2_with (first | simp only [s1] | simp only [s2])
  simp [bodyPost, results, Tryz.results65, go_sem]
  exact (((Below.refl _ _).alloc (Nat.le_refl _) _).alloc (by simp) _).alloc (by simp; omega) _

theorem wopp_c (w : World) (V : Int) (hV : -170141183460469231731687303715884105728 < V ∧ V < 170141183460469231731687303715884105728) :
    Calls Tryz.prog 95 #[wideV V] w fun e w' => e = .returned (wideV (-V)) ∧ Below w.heap.size w w' := by
  unfold wideV
  obtain ⟨a, ha⟩ : ∃ a, a = V / 18446744073709551616 := ⟨_, rfl⟩
  obtain ⟨l, hl⟩ : ∃ a, a = V % 18446744073709551616 := ⟨_, rfl⟩
  obtain ⟨R1, hR1⟩ : ∃ R, R = (-V) / 18446744073709551616 := ⟨_, rfl⟩
  obtain ⟨R2, hR2⟩ : ∃ R, R = (-V) % 18446744073709551616 := ⟨_, rfl⟩
  obtain ⟨b, hb⟩ : ∃ b : Int, b = if (0 : Int) < l then 1 else 0 := ⟨_, rfl⟩
  have b0 : 0 ≤ b := by rw [hb]; split <;> decide
  have b1 : b ≤ 1 := by rw [hb]; split <;> decide
  have hbl : (0 < l → b = 1) ∧ (¬ 0 < l → b = 0) := by rw [hb]; exact ⟨fun h => if_pos h, fun h => if_neg h⟩
  obtain ⟨h, hh⟩ : ∃ k, k = IntKind.u64.wrap a := ⟨_, rfl⟩
  have eh : h = a % 18446744073709551616 := by rw [hh, IntKind.wrap_u64]
  obtain ⟨R3, hR3⟩ : ∃ R, R = (0 - h - b) % 18446744073709551616 := ⟨_, rfl⟩
  obtain ⟨bo, hbo⟩ : ∃ bo : Int, bo = if 0 < h + b then 1 else 0 := ⟨_, rfl⟩
  have s1 : ∀ w, (callFunc 113 #[.int .u64 0, .int .u64 l, .int .u64 0]).run Tryz.prog w = .ok (.value (.tuple #[.int .u64 R2, .int .u64 b])) w := fun w => by
    rw [sub64_0 0 l (by decide) (by omega) (by omega), ← hb, show (0 - l) % 18446744073709551616 = R2 by omega]
  have s2 : ∀ w, (callFunc 113 #[.int .u64 0, .int .u64 h, .int .u64 b]).run Tryz.prog w = .ok (.value (.tuple #[.int .u64 R3, .int .u64 bo])) w := fun w => by
    rw [sub64 0 h b (by decide) (by omega) (by omega) b0 b1, ← hR3, ← hbo]
  have hw : IntKind.i64.wrap R3 = R1 := by
    rw [IntKind.wrap_i64]
    rcases Int.lt_or_le 0 l with h1 | h1
    · have := hbl.1 h1; omega
    · have := hbl.2 (by omega); omega
  have hu : IntKind.u64.wrap a = h := hh.symm
  rw [← ha, ← hl, ← hR1, ← hR2]
  clear ha hl hR1 hR2 hb b0 b1 hbl hh eh hR3 hbo hV
  go_enter Tryz.func95, Tryz.ntmps95
  go_wp2_with (first | simp only [s1] | simp only [s2])
  simp [bodyPost, results, Tryz.results95, go_sem]
  exact ((Below.refl _ _).alloc (Nat.le_refl _) _).alloc (by simp) _

def sumV (n d : Int) : Value := .agg #[.int .i64 (n / 18446744073709551616), .int .u64 (n % 18446744073709551616), .int .i64 (d / 18446744073709551616), .int .u64 (d % 18446744073709551616)]

theorem wzero_c (w : World) : Calls Tryz.prog 31 #[] w fun e w' => e = .returned (sumV 0 1) ∧ Below w.heap.size w w' := by
  have h0 : sumV 0 1 = .agg #[.int .i64 0, .int .u64 0, .int .i64 0, .int .u64 1] := by simp [sumV]
  rw [h0]
  go_enter Tryz.func31, Tryz.ntmps31
  go_wp2
  simp [bodyPost, results, Tryz.results31, go_sem]
  exact (Below.refl _ _).alloc (Nat.le_refl _) _

theorem div_mod_join {P HX q o r K : Nat} (h : P = HX * K + q) (ho : o = q / K) (hr : r = q % K) : P = (HX + o) * K + r := by
  have := Nat.div_add_mod q K
  rw [← ho, ← hr, Nat.mul_comm] at this
  rw [h, Nat.add_mul]; omega
theorem mul_split {v H l K x : Nat} (hv : v = H * K + l) : v * x = H * x * K + l * x := by rw [hv, Nat.add_mul, Nat.mul_right_comm]
set_option maxRecDepth 100000 in
set_option maxHeartbeats 1000000 in
theorem wtimes0_c (w : World) (V n : Int) (h0 : 0 ≤ V) (hV : V < 170141183460469231731687303715884105728) (hn : -9223372036854775808 < n ∧ n ≤ 9223372036854775807) (hP : V * (n.natAbs : Nat) < 170141183460469231731687303715884105728) :
    Calls Tryz.prog 64 #[wideV V, .int .i64 n] w fun e w' => e = .returned (wideV (V * n)) ∧ Below w.heap.size w w' := by
  have HSZ := hid (fun X => size_c X n ⟨by omega, hn.2⟩)
  obtain ⟨x, hx⟩ : ∃ x, x = n.natAbs := ⟨_, rfl⟩
  rw [← hx] at HSZ hP
  obtain ⟨v, rfl⟩ := Int.eq_ofNat_of_zero_le h0
  have hx1 : x ≤ 9223372036854775807 := by omega
  obtain ⟨H, hH⟩ : ∃ H, H = v / 18446744073709551616 := ⟨_, rfl⟩
  obtain ⟨l, hl⟩ : ∃ H, H = v % 18446744073709551616 := ⟨_, rfl⟩
  have hv : v = H * 18446744073709551616 + l := by omega
  have hl1 : l < 18446744073709551616 := by omega
  have hPn : v * x < 170141183460469231731687303715884105728 := by rw [← Int.natCast_mul] at hP; omega
  have hmul : v * x = H * x * 18446744073709551616 + l * x := mul_split hv
  obtain ⟨HX, hHX⟩ : ∃ k, k = H * x := ⟨_, rfl⟩
  obtain ⟨o, ho⟩ : ∃ k, k = l * x / 18446744073709551616 := ⟨_, rfl⟩
  obtain ⟨r, hr⟩ : ∃ k, k = l * x % 18446744073709551616 := ⟨_, rfl⟩
  have HM := hid (fun X => mul64_c l x hl1 (by omega) X)
  rw [← ho, ← hr] at HM
  obtain ⟨P, hPe⟩ : ∃ P, P = v * x := ⟨_, rfl⟩
  rw [← hPe] at hPn hmul
  rw [← hHX] at hmul
  have hPd : P = (HX + o) * 18446744073709551616 + r := div_mod_join hmul ho hr
  have hsum : HX + o < 9223372036854775808 := by omega
  have hr1 : r < 18446744073709551616 := by omega
  have hw0 : wideV (v : Int) = .agg #[.int .i64 H, .int .u64 l] := by
    unfold wideV
    rw [show (v : Int) / 18446744073709551616 = H by omega, show (v : Int) % 18446744073709551616 = l by omega]
  obtain ⟨R, hR⟩ : ∃ R : Nat, R = HX + o := ⟨_, rfl⟩
  have hwP : wideV (P : Int) = .agg #[.int .i64 R, .int .u64 r] := by
    unfold wideV
    rw [show (P : Int) / 18446744073709551616 = R by omega, show (P : Int) % 18446744073709551616 = r by omega]
  have HWP := hid hwP
  have e1 : IntKind.i64.wrap (x : Int) = x := IntWalk.i64_in _ (by omega)
  have e2 : IntKind.i64.wrap ((H : Int) * x) = HX := by rw [show (H : Int) * x = (HX : Int) by rw [hHX]; simp]; exact IntWalk.i64_in _ (by omega)
  have e3 : IntKind.i64.wrap (o : Int) = o := IntWalk.i64_in _ (by omega)
  have e4 : IntKind.i64.wrap ((HX : Int) + o) = R := by rw [IntWalk.i64_in _ (by omega)]; omega
  have hneg : ¬ ((H : Int) < 0) := by omega
  have hres : (v : Int) * n = if n < 0 then -(P : Int) else (P : Int) := by
    have : (P : Int) = (v : Int) * x := by rw [hPe]; simp
    split
    · rw [this, show n = -(x : Int) by omega, Int.mul_neg]
    · rw [this, show n = (x : Int) by omega]
  have HO := hid (fun X => wopp_c X (P : Int) (by omega))
  rw [hwP] at HO
  rw [hw0, hres]
  clear hwP
  obtain ⟨s, hs⟩ : ∃ s, s = w.heap.size := ⟨_, rfl⟩
  obtain ⟨wa, hwa⟩ : ∃ wa, wa = (w.alloc (.cells #[.int .i64 H, .int .u64 l] 62)).alloc (.cells #[.int .i64 0, .int .u64 0] 62) := ⟨_, rfl⟩
  have hba : Below w.heap.size w wa := by rw [hwa]; exact ((Below.refl _ _).alloc (Nat.le_refl _) _).alloc (by simp) _
  have l0 := lift_cell (W := wa) (b := s) (o := 0) (by rw [hwa, hs]; simp; omega) (show _ = some (.int .i64 H) by rw [hwa, hs, World.cell?_alloc_past _ _ _ (by simp), World.cell?_alloc_at _ _ _ _ rfl]; rfl)
  have l1 := lift_cell (W := wa) (b := s) (o := 1) (by rw [hwa, hs]; simp; omega) (show _ = some (.int .u64 l) by rw [hwa, hs, World.cell?_alloc_past _ _ _ (by simp), World.cell?_alloc_at _ _ _ _ rfl]; rfl)
  have q0 : wa.heap[s + 1]? = some (.cells #[.int .i64 0, .int .u64 0] 62 (0, 0)) := by
    have := World.alloc_heap_new (w.alloc (.cells #[.int .i64 H, .int .u64 l] 62)) (.cells #[.int .i64 0, .int .u64 0] 62)
    rw [hwa, hs]
    simpa using this
  have hs1 : s + 1 < wa.heap.size := (Array.getElem?_eq_some_iff.1 q0).1
  have HS := hid (fun (Y : World) (hY : Below wa.heap.size wa Y) => show Y.cell? ⟨s, 0, none⟩ = some (.int .i64 H) from by
    refine (hY.cell (p := ⟨s, 0, none⟩) (by show s < _; omega)).trans ?_
    rw [hwa, hs, World.cell?_alloc_past _ _ _ (by simp), World.cell?_alloc_at _ _ _ _ rfl]; rfl)
  have HR := hid (fun (Y : World) (hY : Below wa.heap.size wa Y) => show Y.cell? ⟨s + 1, 0, none⟩ = some (.int .i64 0) ∧ Y.cell? ⟨s + 1, 1, none⟩ = some (.int .u64 0) ∧ Y.frozen? ⟨s + 1, 0, none⟩ = false ∧ Y.frozen? ⟨s + 1, 1, none⟩ = false ∧ s + 1 < Y.heap.size from by
    have h1 := (hY.block (s + 1) hs1).trans q0
    exact ⟨by simp [World.cell?, h1], by simp [World.cell?, h1], by simp [World.frozen?, h1], by simp [World.frozen?, h1], (Array.getElem?_eq_some_iff.1 h1).1⟩)
  have HFIN := hid (fun (Y : World) (hY : Below wa.heap.size wa Y) (u v : Value) => show Below w.heap.size w ((Y.setCell ⟨s + 1, 0, none⟩ u).setCell ⟨s + 1, 1, none⟩ v) from
    below_set (below_set (chain hba hY) (by omega) 0 u) (by omega) 1 v)
  clear hx hv hH hl hPn hP hmul hHX ho hr hPe hPd hsum hr1 hw0 hR hres h0 hV hn q0 hs1 hba
  go_enter Tryz.func64, Tryz.ntmps64
  go_wp2_with fail
  rw [← hs, ← hwa]
  clear hs hwa
  go_wp2
  refine region_lift (by kernel_rfl) (by kernel_rfl) ?_
  repeat (go_big_quiet_step (first
    | (go_at_call 97; exact lift_calls ((HSZ.out _).mono fun e w' ⟨h1, h2⟩ => ⟨h1, h2 ▸ Below.refl _ _⟩))
    | (go_at_call 96; exact lift_calls ((HM.out _).mono fun e w' ⟨h1, h2⟩ => ⟨h1, h2 ▸ Below.refl _ _⟩))))
  refine wpQuiet_nil ?_
  rintro _ ⟨X, rfl⟩
  have HB1 := hid (lift_below wa X)
  go_wp2
  refine plain_region (fun j' X => wAll j' = true → X.cell? ⟨s, 0, none⟩ = some (.int .i64 H)) (by kernel_rfl) ?_
  have hbd : Below wa.heap.size wa (lift wa X).drew := HB1.out.drew
  generalize (lift wa X).drew = wd at hbd ⊢
  refine AnyT.takeD (i := 0) (v := .pointer (some ⟨s, 0, none⟩)) rfl rfl (by kernel_rfl) (by kernel_rfl) (by kernel_rfl) (by first | exact (fun _ _ _ h => h) | exact (fun _ _ _ h => absurd h.1 (by simp))) (by kernel_rfl) (by rfl) (by rintro w' y1; go_simp) (HS.out _ hbd) ?_; go_frame
  refine AnyT.takeD (i := 1) (v := .int .i64 H) rfl rfl (by kernel_rfl) (by kernel_rfl) (by kernel_rfl) (by first | exact (fun _ _ _ h => h) | exact (fun _ _ _ h => absurd h.1 (by simp))) (by kernel_rfl) (by rfl) (by rintro w' y1; go_simp) (HS.out _ hbd) ?_; go_frame
  refine AnyT.takeD (i := 2) (v := .int .i64 n) rfl rfl (by kernel_rfl) (by kernel_rfl) (by kernel_rfl) (by first | exact (fun _ _ _ h => h) | exact (fun _ _ _ h => absurd h.1 (by simp))) (by kernel_rfl) (by rfl) (by rintro w' y1; go_simp) (HS.out _ hbd) ?_; go_frame
  refine AnyT.takeD (i := 6) (v := .int .u64 o) rfl rfl (by kernel_rfl) (by kernel_rfl) (by kernel_rfl) (by first | exact (fun _ _ _ h => h) | exact (fun _ _ _ h => absurd h.1 (by simp))) (by kernel_rfl) (by rfl) (by rintro w' y1; go_simp) (HS.out _ hbd) ?_; go_frame
  refine AnyT.takeD (i := 7) (v := .int .i64 o) rfl rfl (by kernel_rfl) (by kernel_rfl) (by kernel_rfl) (by first | exact (fun _ _ _ h => h) | exact (fun _ _ _ h => absurd h.1 (by simp))) (by kernel_rfl) (by rfl) (by rintro w' y1; go_simp) (HS.out _ hbd) ?_; go_frame
  refine AnyT.takeD (i := 9) (v := .int .u64 r) rfl rfl (by kernel_rfl) (by kernel_rfl) (by kernel_rfl) (by first | exact (fun _ _ _ h => h) | exact (fun _ _ _ h => absurd h.1 (by simp))) (by kernel_rfl) (by rfl) (by rintro w' y1; go_simp) (HS.out _ hbd) ?_; go_frame
  refine AnyT.nextB (i := 3) (j := 11) (by kernel_rfl) (wpOp_of_list rfl ?_) (wpOp_of_list rfl ?_)
  · go_wp2_with (go_at_call 97; refine (HSZ.out _).mono ?_; rintro e w1 ⟨rfl, rfl⟩; refine Stop.of ?_)
    refine Stop.go ?_
    go_wp2
    refine ⟨fun _ => HS.out _ hbd, ?_⟩
    refine AnyT.takeD (i := 4) (v := .int .i64 x) rfl rfl (by kernel_rfl) (by kernel_rfl) (by kernel_rfl) (by first | exact (fun _ _ _ h => h) | exact (fun _ _ _ h => absurd h.1 (by simp))) (by kernel_rfl) (by rfl) (by rintro w' y1; go_simp) (HS.out _ hbd) ?_; go_frame
    refine AnyT.takeD (i := 5) (v := .int .i64 HX) rfl rfl (by kernel_rfl) (by kernel_rfl) (by kernel_rfl) (by first | exact (fun _ _ _ h => h) | exact (fun _ _ _ h => absurd h.1 (by simp))) (by kernel_rfl) (by rfl) (by rintro w' y1; go_simp) (HS.out _ hbd) ?_; go_frame
    refine AnyT.takeD (i := 8) (v := .int .i64 R) rfl rfl (by kernel_rfl) (by kernel_rfl) (by kernel_rfl) (by first | exact (fun _ _ _ h => h) | exact (fun _ _ _ h => absurd h.1 (by simp))) (by kernel_rfl) (by rfl) (by rintro w' y1; go_simp) (HS.out _ hbd) ?_; go_frame
    refine AnyT.takeD (i := 10) (v := .agg #[.int .i64 R, .int .u64 r]) rfl rfl (by kernel_rfl) (by kernel_rfl) (by kernel_rfl) (by first | exact (fun _ _ _ h => h) | exact (fun _ _ _ h => absurd h.1 (by simp))) (by kernel_rfl) (by rfl) (by rintro w' y1; go_simp) (HS.out _ hbd) ?_; go_frame
    refine AnyT.next (i := 11) (by kernel_rfl) rfl (wpOp_of_list rfl ?_)
    have hbA : Below wa.heap.size wa (wd.alloc (.cells #[.int .i64 0, .int .u64 0] 62)) := hbd.alloc hbd.size _
    go_wp2
    refine ⟨fun _ => HS.out _ hbA, ?_⟩
    refine AnyT.next (i := 12) (by kernel_rfl) rfl (wpOp_of_list rfl ?_)
    have hbF : Below wa.heap.size wa (wd.alloc (.cells #[.int .i64 R, .int .u64 r] 62)) := hbd.alloc hbd.size _
    have HBF := hid hbF
    have HR2 := hid (HR.out _ hbF)
    have HQ := hid (show ∀ Y, Below (wd.alloc (.cells #[.int .i64 R, .int .u64 r] 62)).heap.size (wd.alloc (.cells #[.int .i64 R, .int .u64 r] 62)) Y → Y.cell? ⟨wd.heap.size, 0, none⟩ = some (.int .i64 R) ∧ Y.cell? ⟨wd.heap.size, 1, none⟩ = some (.int .u64 r) from fun Y hY => by
      have h1 := (hY.block wd.heap.size (by simp)).trans (World.alloc_heap_new wd _)
      exact ⟨by simp [World.cell?, h1], by simp [World.cell?, h1]⟩)
    clear hbA
    go_wp2
    refine ⟨fun _ => HS.out _ HBF.out, ?_⟩
    refine AnyT.done (by kernel_rfl) ?_ _
    clear hbF hbd
    obtain ⟨wz, hwz⟩ : ∃ wz, wz = wd.alloc (.cells #[.int .i64 R, .int .u64 r] 62) := ⟨_, rfl⟩
    rw [← hwz] at HBF HR2 HQ ⊢
    clear hwz
    obtain ⟨c0, c1, f0, f1, hlt⟩ := HR2.out
    obtain ⟨d0, d1⟩ := HQ.out wz (Below.refl _ _)
    by_cases hn0 : n < 0
    · have hnb : decide (n < 0) = true := by simp [hn0]
      go_wp2_with (go_at_call 95; refine (HO.out wz).mono ?_; rintro e w2 ⟨rfl, hb2⟩; refine Stop.of ?_)
      refine Stop.go ?_
      have HB2 := hid (chain HBF.out hb2)
      obtain ⟨c0, c1, f0, f1, hlt⟩ := HR.out _ HB2.out
      have HFI := hid (HFIN.out _ HB2.out)
      have hwz := (show wideV (-(P : Int)) = .agg #[.int .i64 ((-(P : Int)) / 18446744073709551616), .int .u64 ((-(P : Int)) % 18446744073709551616)] from rfl)
      obtain ⟨z1, hz1⟩ : ∃ z, z = (-(P : Int)) / 18446744073709551616 := ⟨_, rfl⟩
      obtain ⟨z2, hz2⟩ : ∃ z, z = (-(P : Int)) % 18446744073709551616 := ⟨_, rfl⟩
      rw [← hz1, ← hz2] at hwz
      have HWZ := hid hwz
      rw [hwz]
      clear hwz hb2 HFIN hz1 hz2
      go_wp2
      refine bodyPost_ret (v := .agg #[.int .i64 z1, .int .u64 z2]) ?_ rfl ⟨by first | rw [HWZ.out] | rw [if_pos (by omega), HWZ.out], HFI.out _ _⟩
      simp [results, Tryz.results64, go_sem, c0, c1, f0, f1, hlt]
    · have hnb : decide (n < 0) = false := by simp [hn0]
      have HFI := hid (HFIN.out _ HBF.out)
      clear HFIN
      go_wp2
      refine bodyPost_ret (v := .agg #[.int .i64 R, .int .u64 r]) ?_ rfl ⟨by first | rw [HWP.out] | rw [if_neg (by omega), HWP.out], HFI.out _ _⟩
      simp [results, Tryz.results64, go_sem, c0, c1, f0, f1, hlt]
  · go_wp2
    have hbA : Below wa.heap.size wa (wd.alloc (.cells #[.int .i64 0, .int .u64 0] 62)) := hbd.alloc hbd.size _
    refine ⟨fun _ => HS.out _ hbA, ?_⟩
    refine AnyT.next (i := 3) (by kernel_rfl) rfl (wpOp_of_list rfl ?_)
    go_wp2_with (go_at_call 97; refine (HSZ.out _).mono ?_; rintro e w1 ⟨rfl, rfl⟩; refine Stop.of ?_)
    refine Stop.go ?_
    go_wp2
    refine ⟨fun _ => HS.out _ hbA, ?_⟩
    refine AnyT.takeD (i := 4) (v := .int .i64 x) rfl rfl (by kernel_rfl) (by kernel_rfl) (by kernel_rfl) (by first | exact (fun _ _ _ h => h) | exact (fun _ _ _ h => absurd h.1 (by simp))) (by kernel_rfl) (by rfl) (by rintro w' y1; go_simp) (HS.out _ hbA) ?_; go_frame
    refine AnyT.takeD (i := 5) (v := .int .i64 HX) rfl rfl (by kernel_rfl) (by kernel_rfl) (by kernel_rfl) (by first | exact (fun _ _ _ h => h) | exact (fun _ _ _ h => absurd h.1 (by simp))) (by kernel_rfl) (by rfl) (by rintro w' y1; go_simp) (HS.out _ hbA) ?_; go_frame
    refine AnyT.takeD (i := 8) (v := .int .i64 R) rfl rfl (by kernel_rfl) (by kernel_rfl) (by kernel_rfl) (by first | exact (fun _ _ _ h => h) | exact (fun _ _ _ h => absurd h.1 (by simp))) (by kernel_rfl) (by rfl) (by rintro w' y1; go_simp) (HS.out _ hbA) ?_; go_frame
    refine AnyT.takeD (i := 10) (v := .agg #[.int .i64 R, .int .u64 r]) rfl rfl (by kernel_rfl) (by kernel_rfl) (by kernel_rfl) (by first | exact (fun _ _ _ h => h) | exact (fun _ _ _ h => absurd h.1 (by simp))) (by kernel_rfl) (by rfl) (by rintro w' y1; go_simp) (HS.out _ hbA) ?_; go_frame
    refine AnyT.next (i := 12) (by kernel_rfl) rfl (wpOp_of_list rfl ?_)
    have hbF : Below wa.heap.size wa (wd.alloc (.cells #[.int .i64 R, .int .u64 r] 62)) := hbd.alloc hbd.size _
    have HBF := hid hbF
    have HR2 := hid (HR.out _ hbF)
    have HQ := hid (show ∀ Y, Below (wd.alloc (.cells #[.int .i64 R, .int .u64 r] 62)).heap.size (wd.alloc (.cells #[.int .i64 R, .int .u64 r] 62)) Y → Y.cell? ⟨wd.heap.size, 0, none⟩ = some (.int .i64 R) ∧ Y.cell? ⟨wd.heap.size, 1, none⟩ = some (.int .u64 r) from fun Y hY => by
      have h1 := (hY.block wd.heap.size (by simp)).trans (World.alloc_heap_new wd _)
      exact ⟨by simp [World.cell?, h1], by simp [World.cell?, h1]⟩)
    clear hbA
    go_wp2
    refine ⟨fun _ => HS.out _ HBF.out, ?_⟩
    refine AnyT.done (by kernel_rfl) ?_ _
    clear hbF hbd
    obtain ⟨wz, hwz⟩ : ∃ wz, wz = wd.alloc (.cells #[.int .i64 R, .int .u64 r] 62) := ⟨_, rfl⟩
    rw [← hwz] at HBF HR2 HQ ⊢
    clear hwz
    obtain ⟨c0, c1, f0, f1, hlt⟩ := HR2.out
    obtain ⟨d0, d1⟩ := HQ.out wz (Below.refl _ _)
    by_cases hn0 : n < 0
    · have hnb : decide (n < 0) = true := by simp [hn0]
      go_wp2_with (go_at_call 95; refine (HO.out wz).mono ?_; rintro e w2 ⟨rfl, hb2⟩; refine Stop.of ?_)
      refine Stop.go ?_
      have HB2 := hid (chain HBF.out hb2)
      obtain ⟨c0, c1, f0, f1, hlt⟩ := HR.out _ HB2.out
      have HFI := hid (HFIN.out _ HB2.out)
      have hwz := (show wideV (-(P : Int)) = .agg #[.int .i64 ((-(P : Int)) / 18446744073709551616), .int .u64 ((-(P : Int)) % 18446744073709551616)] from rfl)
      obtain ⟨z1, hz1⟩ : ∃ z, z = (-(P : Int)) / 18446744073709551616 := ⟨_, rfl⟩
      obtain ⟨z2, hz2⟩ : ∃ z, z = (-(P : Int)) % 18446744073709551616 := ⟨_, rfl⟩
      rw [← hz1, ← hz2] at hwz
      have HWZ := hid hwz
      rw [hwz]
      clear hwz hb2 HFIN hz1 hz2
      go_wp2
      refine bodyPost_ret (v := .agg #[.int .i64 z1, .int .u64 z2]) ?_ rfl ⟨by first | rw [HWZ.out] | rw [if_pos (by omega), HWZ.out], HFI.out _ _⟩
      simp [results, Tryz.results64, go_sem, c0, c1, f0, f1, hlt]
    · have hnb : decide (n < 0) = false := by simp [hn0]
      have HFI := hid (HFIN.out _ HBF.out)
      clear HFIN
      go_wp2
      refine bodyPost_ret (v := .agg #[.int .i64 R, .int .u64 r]) ?_ rfl ⟨by first | rw [HWP.out] | rw [if_neg (by omega), HWP.out], HFI.out _ _⟩
      simp [results, Tryz.results64, go_sem, c0, c1, f0, f1, hlt]

set_option maxRecDepth 100000 in
set_option maxHeartbeats 1000000 in
theorem wtimes_c (w : World) (V n : Int) (hV : -170141183460469231731687303715884105728 < V ∧ V < 170141183460469231731687303715884105728) (hn : -9223372036854775808 < n ∧ n ≤ 9223372036854775807) (hP : (V.natAbs * n.natAbs : Nat) < 170141183460469231731687303715884105728) :
    Calls Tryz.prog 64 #[wideV V, .int .i64 n] w fun e w' => e = .returned (wideV (V * n)) ∧ Below w.heap.size w w' := by
  by_cases h0 : 0 ≤ V
  · refine wtimes0_c w V n h0 hV.2 hn ?_
    rw [show V = ((V.natAbs : Nat) : Int) by omega, ← Int.natCast_mul]
    omega
  · have HT := hid (fun X => wtimes0_c X (-V) n (by omega) (by omega) hn (by
      rw [show -V = ((V.natAbs : Nat) : Int) by omega, ← Int.natCast_mul]
      omega))
    have HO1 := hid (fun X => wopp_c X V hV)
    have hbn : -170141183460469231731687303715884105728 < -V * n ∧ -V * n < 170141183460469231731687303715884105728 := by
      have e : (-V * n).natAbs = V.natAbs * n.natAbs := by rw [Int.natAbs_mul, Int.natAbs_neg]
      rw [← e] at hP
      omega
    have HO2 := hid (fun X => wopp_c X (-V * n) hbn)
    have hve : - (-V * n) = V * n := by rw [Int.neg_mul, Int.neg_neg]
    rw [hve] at HO2
    obtain ⟨Z, hZ⟩ : ∃ Z, Z = V * n := ⟨_, rfl⟩
    obtain ⟨Y, hY⟩ : ∃ Z, Z = -V * n := ⟨_, rfl⟩
    rw [← hZ] at HO2 ⊢
    rw [← hY] at HT HO2
    obtain ⟨a, ha⟩ : ∃ a, a = V / 18446744073709551616 := ⟨_, rfl⟩
    obtain ⟨l, hl⟩ : ∃ a, a = V % 18446744073709551616 := ⟨_, rfl⟩
    have hw0 : wideV V = .agg #[.int .i64 a, .int .u64 l] := by unfold wideV; rw [← ha, ← hl]
    have hwz : wideV Z = .agg #[.int .i64 (Z / 18446744073709551616), .int .u64 (Z % 18446744073709551616)] := rfl
    obtain ⟨z1, hz1⟩ : ∃ z, z = Z / 18446744073709551616 := ⟨_, rfl⟩
    obtain ⟨z2, hz2⟩ : ∃ z, z = Z % 18446744073709551616 := ⟨_, rfl⟩
    rw [← hz1, ← hz2] at hwz
    rw [hw0] at HO1 ⊢
    rw [hwz] at HO2 ⊢
    have haN : a < 0 := by omega
    obtain ⟨s, hs⟩ : ∃ s, s = w.heap.size := ⟨_, rfl⟩
    obtain ⟨wa, hwa⟩ : ∃ wa, wa = (w.alloc (.cells #[.int .i64 a, .int .u64 l] 62)).alloc (.cells #[.int .i64 0, .int .u64 0] 62) := ⟨_, rfl⟩
    have hba : Below w.heap.size w wa := by rw [hwa]; exact ((Below.refl _ _).alloc (Nat.le_refl _) _).alloc (by simp) _
    have q0 : wa.heap[s + 1]? = some (.cells #[.int .i64 0, .int .u64 0] 62 (0, 0)) := by
      have := World.alloc_heap_new (w.alloc (.cells #[.int .i64 a, .int .u64 l] 62)) (.cells #[.int .i64 0, .int .u64 0] 62)
      rw [hwa, hs]
      simpa using this
    have hs1 : s + 1 < wa.heap.size := (Array.getElem?_eq_some_iff.1 q0).1
    have c00 : wa.cell? ⟨s, 0, none⟩ = some (.int .i64 a) := by rw [hwa, hs, World.cell?_alloc_past _ _ _ (by simp), World.cell?_alloc_at _ _ _ _ rfl]; rfl
    have c01 : wa.cell? ⟨s, 1, none⟩ = some (.int .u64 l) := by rw [hwa, hs, World.cell?_alloc_past _ _ _ (by simp), World.cell?_alloc_at _ _ _ _ rfl]; rfl
    have HR := hid (fun (Y : World) (hY : Below wa.heap.size wa Y) => show Y.cell? ⟨s + 1, 0, none⟩ = some (.int .i64 0) ∧ Y.cell? ⟨s + 1, 1, none⟩ = some (.int .u64 0) ∧ Y.frozen? ⟨s + 1, 0, none⟩ = false ∧ Y.frozen? ⟨s + 1, 1, none⟩ = false ∧ s + 1 < Y.heap.size from by
      have h1 := (hY.block (s + 1) hs1).trans q0
      exact ⟨by simp [World.cell?, h1], by simp [World.cell?, h1], by simp [World.frozen?, h1], by simp [World.frozen?, h1], (Array.getElem?_eq_some_iff.1 h1).1⟩)
    have HFIN := hid (fun (Y : World) (hY : Below wa.heap.size wa Y) (u v : Value) => show Below w.heap.size w ((Y.setCell ⟨s + 1, 0, none⟩ u).setCell ⟨s + 1, 1, none⟩ v) from
      below_set (below_set (chain hba hY) (by omega) 0 u) (by omega) 1 v)
    clear hV hn hP h0 hbn hve hZ hY ha hl hw0 hwz hz1 hz2 q0 hs1 hba
    go_enter Tryz.func64, Tryz.ntmps64
    go_wp2_with fail
    rw [← hs, ← hwa]
    clear hs hwa
    go_wp2_with (go_at_call 95; refine (HO1.out _).mono ?_; rintro e w1 ⟨rfl, hb1⟩; refine Stop.of ?_)
    refine Stop.go ?_
    have HB1 := hid hb1
    clear hb1
    go_wp2_with (go_at_call 64; refine (HT.out _).mono ?_; rintro e w2 ⟨rfl, hb2⟩; refine Stop.of ?_)
    refine Stop.go ?_
    have HB2 := hid (chain HB1.out hb2)
    clear hb2
    go_wp2_with (go_at_call 95; refine (HO2.out _).mono ?_; rintro e w3 ⟨rfl, hb3⟩; refine Stop.of ?_)
    refine Stop.go ?_
    have hb := chain HB2.out hb3
    obtain ⟨c0, c1, f0, f1, hlt⟩ := HR.out _ hb
    have HFI := hid (HFIN.out _ hb)
    clear hb hb3 HFIN
    go_wp2
    refine bodyPost_ret (v := .agg #[.int .i64 z1, .int .u64 z2]) ?_ rfl ⟨rfl, HFI.out _ _⟩
    simp [results, Tryz.results64, go_sem, c0, c1, f0, f1, hlt]
end

section
open Go.RowKit Go.Lib
set_option linter.unusedVariables false

def B127 (V : Int) : Prop := -170141183460469231731687303715884105728 < V ∧ V < 170141183460469231731687303715884105728
def WP (V a b : Int) : Prop := a = V / 18446744073709551616 ∧ b = V % 18446744073709551616
theorem WP.ex (V : Int) : ∃ a b, WP V a b := ⟨_, _, rfl, rfl⟩
theorem WP.val {V a b : Int} (h : WP V a b) : wideV V = .agg #[.int .i64 a, .int .u64 b] := by rw [h.1, h.2]; rfl
theorem WP.sum {V U a b c d : Int} (h : WP V a b) (k : WP U c d) : sumV V U = .agg #[.int .i64 a, .int .u64 b, .int .i64 c, .int .u64 d] := by rw [h.1, h.2, k.1, k.2]; rfl

set_option maxRecDepth 100000 in
set_option maxHeartbeats 1000000 in
theorem splus_c (w : World) (n d N D t : Int) (hn : B127 n) (hd : B127 d) (hD : -9223372036854775808 < D ∧ D ≤ 9223372036854775807) (hNt : -9223372036854775808 < N * t ∧ N * t ≤ 9223372036854775807)
    (h1 : B127 (n * D)) (h2 : B127 (d * (N * t))) (h3 : B127 (n * D + d * (N * t))) (h4 : B127 (d * D)) :
    Calls Tryz.prog 32 #[sumV n d, ratV (N, D), .int .i64 t] w fun e w' => e = .returned (sumV (n * D + d * (N * t)) (d * D)) ∧ Below w.heap.size w w' := by
  have nb : ∀ a b : Int, B127 (a * b) → (a.natAbs * b.natAbs : Nat) < 170141183460469231731687303715884105728 := fun a b h => by
    rw [← Int.natAbs_mul]; unfold B127 at h; omega
  have HT1 := hid (fun X => wtimes_c X n D hn hD (nb _ _ h1))
  have HT2 := hid (fun X => wtimes_c X d (N * t) hd hNt (nb _ _ h2))
  have HT3 := hid (fun X => wtimes_c X d D hd hD (nb _ _ h4))
  have HPL := hid (fun X => wplus_c X (n * D) (d * (N * t)) (by unfold B127 at h3; omega) (by unfold B127 at h1; omega) (by unfold B127 at h2; omega))
  have hnt : IntKind.i64.wrap (N * t) = N * t := IntWalk.i64_in _ (by omega)
  obtain ⟨n1, n2, pn⟩ := WP.ex n
  obtain ⟨d1, d2, pd⟩ := WP.ex d
  obtain ⟨a1, a2, pA⟩ := WP.ex (n * D)
  obtain ⟨b1, b2, pB⟩ := WP.ex (d * (N * t))
  obtain ⟨s1, s2, pS⟩ := WP.ex (n * D + d * (N * t))
  obtain ⟨c1, c2, pC⟩ := WP.ex (d * D)
  rw [pn.val, pA.val] at HT1
  rw [pd.val, pB.val] at HT2
  rw [pd.val, pC.val] at HT3
  rw [pA.val, pB.val, pS.val] at HPL
  rw [pn.sum pd, pS.sum pC]
  obtain ⟨m, hm⟩ : ∃ m, m = N * t := ⟨_, rfl⟩
  rw [← hm] at HT2
  have hmul : IntKind.i64.wrap (N * t) = m := by rw [hnt, hm]
  clear hnt hm nb hn hd hD hNt h1 h2 h3 h4 pn pd pA pB pS pC
  obtain ⟨s, hs⟩ : ∃ s, s = w.heap.size := ⟨_, rfl⟩
  obtain ⟨wa, hwa⟩ : ∃ wa, wa = ((w.alloc (.cells #[.int .i64 n1, .int .u64 n2, .int .i64 d1, .int .u64 d2] 64)).alloc (.cells #[.int .i64 N, .int .i64 D] 57)).alloc (.cells #[.int .i64 0, .int .u64 0, .int .i64 0, .int .u64 0] 64) := ⟨_, rfl⟩
  have hba : Below w.heap.size w wa := by rw [hwa]; exact (((Below.refl _ _).alloc (Nat.le_refl _) _).alloc (by simp) _).alloc (by simp; omega) _
  have q0 : wa.heap[s + 2]? = some (.cells #[.int .i64 0, .int .u64 0, .int .i64 0, .int .u64 0] 64 (0, 0)) := by
    have := World.alloc_heap_new ((w.alloc (.cells #[.int .i64 n1, .int .u64 n2, .int .i64 d1, .int .u64 d2] 64)).alloc (.cells #[.int .i64 N, .int .i64 D] 57)) (.cells #[.int .i64 0, .int .u64 0, .int .i64 0, .int .u64 0] 64)
    rw [hwa, hs]
    simpa using this
  have hs1 : s + 2 < wa.heap.size := (Array.getElem?_eq_some_iff.1 q0).1
  have hc : ∀ o v, (#[Value.int .i64 n1, .int .u64 n2, .int .i64 d1, .int .u64 d2] : Array Value)[o]? = some v → wa.cell? ⟨s, o, none⟩ = some v := fun o v h => by
    rw [hwa, hs, World.cell?_alloc_past _ _ _ (by simp; omega), World.cell?_alloc_past _ _ _ (by simp), World.cell?_alloc_at _ _ _ _ rfl]; exact h
  have hc2 : ∀ o v, (#[Value.int .i64 N, .int .i64 D] : Array Value)[o]? = some v → wa.cell? ⟨s + 1, o, none⟩ = some v := fun o v h => by
    rw [hwa, hs, World.cell?_alloc_past _ _ _ (by simp), World.cell?_alloc_at _ _ _ _ (by simp)]; exact h
  have HS := hid (fun (Y : World) (hY : Below wa.heap.size wa Y) => show Y.cell? ⟨s, 0, none⟩ = some (.int .i64 n1) ∧ Y.cell? ⟨s, 1, none⟩ = some (.int .u64 n2) ∧ Y.cell? ⟨s, 2, none⟩ = some (.int .i64 d1) ∧ Y.cell? ⟨s, 3, none⟩ = some (.int .u64 d2) ∧ Y.cell? ⟨s + 1, 0, none⟩ = some (.int .i64 N) ∧ Y.cell? ⟨s + 1, 1, none⟩ = some (.int .i64 D) from by
    have k0 : ∀ o, Y.cell? ⟨s, o, none⟩ = wa.cell? ⟨s, o, none⟩ := fun o => hY.cell (p := ⟨s, o, none⟩) (by show s < _; omega)
    have k1 : ∀ o, Y.cell? ⟨s + 1, o, none⟩ = wa.cell? ⟨s + 1, o, none⟩ := fun o => hY.cell (p := ⟨s + 1, o, none⟩) (by show s + 1 < _; omega)
    exact ⟨(k0 0).trans (hc 0 _ rfl), (k0 1).trans (hc 1 _ rfl), (k0 2).trans (hc 2 _ rfl), (k0 3).trans (hc 3 _ rfl), (k1 0).trans (hc2 0 _ rfl), (k1 1).trans (hc2 1 _ rfl)⟩)
  have HR := hid (fun (Y : World) (hY : Below wa.heap.size wa Y) => show Y.cell? ⟨s + 2, 0, none⟩ = some (.int .i64 0) ∧ Y.cell? ⟨s + 2, 1, none⟩ = some (.int .u64 0) ∧ Y.cell? ⟨s + 2, 2, none⟩ = some (.int .i64 0) ∧ Y.cell? ⟨s + 2, 3, none⟩ = some (.int .u64 0) ∧ (∀ o, Y.frozen? ⟨s + 2, o, none⟩ = false) ∧ s + 2 < Y.heap.size from by
    have h1 := (hY.block (s + 2) hs1).trans q0
    exact ⟨by simp [World.cell?, h1], by simp [World.cell?, h1], by simp [World.cell?, h1], by simp [World.cell?, h1], fun o => by simp [World.frozen?, h1], (Array.getElem?_eq_some_iff.1 h1).1⟩)
  have HFIN := hid (fun (Y : World) (hY : Below wa.heap.size wa Y) (u v x z : Value) => show Below w.heap.size w ((((Y.setCell ⟨s + 2, 0, none⟩ u).setCell ⟨s + 2, 1, none⟩ v).setCell ⟨s + 2, 2, none⟩ x).setCell ⟨s + 2, 3, none⟩ z) from
    below_set (below_set (below_set (below_set (chain hba hY) (by omega) 0 u) (by omega) 1 v) (by omega) 2 x) (by omega) 3 z)
  have HFA := hid (fun (Y : World) (hY : Below wa.heap.size wa Y) (u v x z : Value) => show Below wa.heap.size wa wa ∧ ∀ o : Nat, True from ⟨Below.refl _ _, fun _ => trivial⟩)
  clear hba q0 hs1 hc hc2 HFA
  go_enter Tryz.func32, Tryz.ntmps32
  simp only [ratV]
  go_wp2_with fail
  rw [← hs, ← hwa]
  clear hs hwa
  refine plain_region (fun j' X => decide (j' ≤ 18) = true → X.cell? ⟨s, 0, none⟩ = some (.int .i64 n1) ∧ X.cell? ⟨s, 1, none⟩ = some (.int .u64 n2) ∧ X.cell? ⟨s, 2, none⟩ = some (.int .i64 d1) ∧ X.cell? ⟨s, 3, none⟩ = some (.int .u64 d2) ∧ X.cell? ⟨s + 1, 0, none⟩ = some (.int .i64 N) ∧ X.cell? ⟨s + 1, 1, none⟩ = some (.int .i64 D)) (by kernel_rfl) ?_
  have hbd : Below wa.heap.size wa wa.drew := (Below.refl _ _).drew
  generalize wa.drew = wd at hbd ⊢
  refine AnyT.takeD (i := 0) (v := .pointer (some ⟨s, 0, none⟩)) rfl rfl (by kernel_rfl) (by kernel_rfl) (by kernel_rfl) (by first | exact (fun _ _ _ h => h) | exact (fun _ _ _ h => absurd h.1 (by simp))) (by kernel_rfl) (by rfl) (by rintro w' ⟨y1, y2, y3, y4, y5, y6⟩; go_simp) (HS.out _ hbd) ?_; go_frame
  refine AnyT.takeD (i := 1) (v := .agg #[.int .i64 n1, .int .u64 n2]) rfl rfl (by kernel_rfl) (by kernel_rfl) (by kernel_rfl) (by first | exact (fun _ _ _ h => h) | exact (fun _ _ _ h => absurd h.1 (by simp))) (by kernel_rfl) (by rfl) (by rintro w' ⟨y1, y2, y3, y4, y5, y6⟩; go_simp) (HS.out _ hbd) ?_; go_frame
  refine AnyT.takeD (i := 2) (v := .pointer (some ⟨s + 1, 1, none⟩)) rfl rfl (by kernel_rfl) (by kernel_rfl) (by kernel_rfl) (by first | exact (fun _ _ _ h => h) | exact (fun _ _ _ h => absurd h.1 (by simp))) (by kernel_rfl) (by rfl) (by rintro w' ⟨y1, y2, y3, y4, y5, y6⟩; go_simp) (HS.out _ hbd) ?_; go_frame
  refine AnyT.takeD (i := 3) (v := .int .i64 D) rfl rfl (by kernel_rfl) (by kernel_rfl) (by kernel_rfl) (by first | exact (fun _ _ _ h => h) | exact (fun _ _ _ h => absurd h.1 (by simp))) (by kernel_rfl) (by rfl) (by rintro w' ⟨y1, y2, y3, y4, y5, y6⟩; go_simp) (HS.out _ hbd) ?_; go_frame
  refine AnyT.takeD (i := 5) (v := .pointer (some ⟨s, 2, none⟩)) rfl rfl (by kernel_rfl) (by kernel_rfl) (by kernel_rfl) (by first | exact (fun _ _ _ h => h) | exact (fun _ _ _ h => absurd h.1 (by simp))) (by kernel_rfl) (by rfl) (by rintro w' ⟨y1, y2, y3, y4, y5, y6⟩; go_simp) (HS.out _ hbd) ?_; go_frame
  refine AnyT.takeD (i := 6) (v := .agg #[.int .i64 d1, .int .u64 d2]) rfl rfl (by kernel_rfl) (by kernel_rfl) (by kernel_rfl) (by first | exact (fun _ _ _ h => h) | exact (fun _ _ _ h => absurd h.1 (by simp))) (by kernel_rfl) (by rfl) (by rintro w' ⟨y1, y2, y3, y4, y5, y6⟩; go_simp) (HS.out _ hbd) ?_; go_frame
  refine AnyT.takeD (i := 7) (v := .pointer (some ⟨s + 1, 0, none⟩)) rfl rfl (by kernel_rfl) (by kernel_rfl) (by kernel_rfl) (by first | exact (fun _ _ _ h => h) | exact (fun _ _ _ h => absurd h.1 (by simp))) (by kernel_rfl) (by rfl) (by rintro w' ⟨y1, y2, y3, y4, y5, y6⟩; go_simp) (HS.out _ hbd) ?_; go_frame
  refine AnyT.takeD (i := 8) (v := .int .i64 N) rfl rfl (by kernel_rfl) (by kernel_rfl) (by kernel_rfl) (by first | exact (fun _ _ _ h => h) | exact (fun _ _ _ h => absurd h.1 (by simp))) (by kernel_rfl) (by rfl) (by rintro w' ⟨y1, y2, y3, y4, y5, y6⟩; go_simp) (HS.out _ hbd) ?_; go_frame
  refine AnyT.takeD (i := 9) (v := .int .i64 t) rfl rfl (by kernel_rfl) (by kernel_rfl) (by kernel_rfl) (by first | exact (fun _ _ _ h => h) | exact (fun _ _ _ h => absurd h.1 (by simp))) (by kernel_rfl) (by rfl) (by rintro w' ⟨y1, y2, y3, y4, y5, y6⟩; go_simp) (HS.out _ hbd) ?_; go_frame
  refine AnyT.takeD (i := 10) (v := .int .i64 m) rfl rfl (by kernel_rfl) (by kernel_rfl) (by kernel_rfl) (by first | exact (fun _ _ _ h => h) | exact (fun _ _ _ h => absurd h.1 (by simp))) (by kernel_rfl) (by rfl) (by rintro w' ⟨y1, y2, y3, y4, y5, y6⟩; go_simp) (HS.out _ hbd) ?_; go_frame
  refine AnyT.takeD (i := 13) (v := .pointer (some ⟨s, 2, none⟩)) rfl rfl (by kernel_rfl) (by kernel_rfl) (by kernel_rfl) (by first | exact (fun _ _ _ h => h) | exact (fun _ _ _ h => absurd h.1 (by simp))) (by kernel_rfl) (by rfl) (by rintro w' ⟨y1, y2, y3, y4, y5, y6⟩; go_simp) (HS.out _ hbd) ?_; go_frame
  refine AnyT.takeD (i := 14) (v := .agg #[.int .i64 d1, .int .u64 d2]) rfl rfl (by kernel_rfl) (by kernel_rfl) (by kernel_rfl) (by first | exact (fun _ _ _ h => h) | exact (fun _ _ _ h => absurd h.1 (by simp))) (by kernel_rfl) (by rfl) (by rintro w' ⟨y1, y2, y3, y4, y5, y6⟩; go_simp) (HS.out _ hbd) ?_; go_frame
  refine AnyT.takeD (i := 15) (v := .pointer (some ⟨s + 1, 1, none⟩)) rfl rfl (by kernel_rfl) (by kernel_rfl) (by kernel_rfl) (by first | exact (fun _ _ _ h => h) | exact (fun _ _ _ h => absurd h.1 (by simp))) (by kernel_rfl) (by rfl) (by rintro w' ⟨y1, y2, y3, y4, y5, y6⟩; go_simp) (HS.out _ hbd) ?_; go_frame
  refine AnyT.takeD (i := 16) (v := .int .i64 D) rfl rfl (by kernel_rfl) (by kernel_rfl) (by kernel_rfl) (by first | exact (fun _ _ _ h => h) | exact (fun _ _ _ h => absurd h.1 (by simp))) (by kernel_rfl) (by rfl) (by rintro w' ⟨y1, y2, y3, y4, y5, y6⟩; go_simp) (HS.out _ hbd) ?_; go_frame
  refine AnyT.next (i := 4) (by kernel_rfl) rfl (wpOp_of_list rfl ?_)
  go_wp2_with (go_at_call 64; refine (HT1.out _).mono ?_; rintro e w1 ⟨rfl, hbw1⟩; refine Stop.of ?_)
  refine Stop.go ?_
  have HB1 := hid (chain hbd hbw1)
  clear hbw1
  go_wp2
  refine ⟨fun _ => HS.out _ HB1.out, ?_⟩
  refine AnyT.next (i := 11) (by kernel_rfl) rfl (wpOp_of_list rfl ?_)
  go_wp2_with (go_at_call 64; refine (HT2.out _).mono ?_; rintro e w2 ⟨rfl, hbw2⟩; refine Stop.of ?_)
  refine Stop.go ?_
  have HB2 := hid (chain HB1.out hbw2)
  clear hbw2
  go_wp2
  refine ⟨fun _ => HS.out _ HB2.out, ?_⟩
  refine AnyT.next (i := 12) (by kernel_rfl) rfl (wpOp_of_list rfl ?_)
  go_wp2_with (go_at_call 65; refine (HPL.out _).mono ?_; rintro e w3 ⟨rfl, hbw3⟩; refine Stop.of ?_)
  refine Stop.go ?_
  have HB3 := hid (chain HB2.out hbw3)
  clear hbw3
  go_wp2
  refine ⟨fun _ => HS.out _ HB3.out, ?_⟩
  refine AnyT.next (i := 17) (by kernel_rfl) rfl (wpOp_of_list rfl ?_)
  go_wp2_with (go_at_call 64; refine (HT3.out _).mono ?_; rintro e w4 ⟨rfl, hbw4⟩; refine Stop.of ?_)
  refine Stop.go ?_
  have HB4 := hid (chain HB3.out hbw4)
  clear hbw4
  go_wp2
  refine ⟨fun _ => HS.out _ HB4.out, ?_⟩
  refine AnyT.next (i := 18) (by kernel_rfl) rfl (wpOp_of_list rfl ?_)
  go_wp2
  refine ⟨fun _ => HS.out _ HB4.out, ?_⟩
  refine AnyT.next (i := 19) (by kernel_rfl) rfl (wpOp_of_list rfl ?_)
  obtain ⟨c00, c01, c02, c03, hfz, hlt⟩ := HR.out _ HB4.out
  have f0 := hfz 0
  have f1 := hfz 1
  have f2 := hfz 2
  have f3 := hfz 3
  have HFI := hid (HFIN.out _ HB4.out)
  clear HFIN hfz
  go_wp2
  refine ⟨fun h => absurd h (by decide), ?_⟩
  refine AnyT.done (by kernel_rfl) ?_ _
  go_wp2
  refine bodyPost_ret (v := .agg #[.int .i64 s1, .int .u64 s2, .int .i64 c1, .int .u64 c2]) ?_ rfl ⟨rfl, HFI.out _ _ _ _⟩
  simp [results, Tryz.results32, go_sem, c00, c01, c02, c03, f0, f1, f2, f3, hlt]

theorem scompare_c (w : World) (n d y : Int) (hd : B127 d) (hy : -9223372036854775808 < y ∧ y ≤ 9223372036854775807) (h1 : B127 (d * y)) :
    Calls Tryz.prog 33 #[sumV n d, .int .i64 y] w fun e w' => e = .returned (.int .i64 (cmpI n (d * y))) ∧ Below w.heap.size w w' := by
  have HT := hid (fun X => wtimes_c X d y hd hy (by rw [← Int.natAbs_mul]; unfold B127 at h1; omega))
  have HC := hid (fun X => wcompare_c X n (d * y))
  obtain ⟨n1, n2, pn⟩ := WP.ex n
  obtain ⟨d1, d2, pd⟩ := WP.ex d
  obtain ⟨a1, a2, pA⟩ := WP.ex (d * y)
  rw [pd.val, pA.val] at HT
  rw [pn.val, pA.val] at HC
  rw [pn.sum pd]
  obtain ⟨c, hc⟩ : ∃ c, c = cmpI n (d * y) := ⟨_, rfl⟩
  rw [← hc] at HC ⊢
  clear hc hd hy h1 pn pd pA
  obtain ⟨wz, hwz⟩ : ∃ wz, wz = w.alloc (.cells #[.int .i64 n1, .int .u64 n2, .int .i64 d1, .int .u64 d2] 64) := ⟨_, rfl⟩
  have hbz : Below w.heap.size w wz := by rw [hwz]; exact (Below.refl _ _).alloc (Nat.le_refl _) _
  have hsz : w.heap.size < wz.heap.size := by rw [hwz]; simp
  have hcl : ∀ o v, (#[Value.int .i64 n1, .int .u64 n2, .int .i64 d1, .int .u64 d2] : Array Value)[o]? = some v → wz.cell? ⟨w.heap.size, o, none⟩ = some v := fun o v h => by
    rw [hwz, World.cell?_alloc_at _ _ _ _ rfl]; exact h
  have l0 := lift_cell hsz (hcl 0 _ rfl)
  have l1 := lift_cell hsz (hcl 1 _ rfl)
  have l2 := lift_cell hsz (hcl 2 _ rfl)
  have l3 := lift_cell hsz (hcl 3 _ rfl)
  have HBZ := hid hbz
  clear hbz hsz hcl
  go_enter Tryz.func33, Tryz.ntmps33
  go_wp2_with fail
  rw [← hwz]
  clear hwz
  refine region_lift (by kernel_rfl) (by kernel_rfl) ?_
  repeat (go_big_quiet_step (first
    | (go_at_call 64; exact lift_calls (HT.out _))
    | (go_at_call 66; exact lift_calls (HC.out _))))
  refine wpQuiet_nil ?_
  rintro _ ⟨X, rfl⟩
  have hfin := chain HBZ.out (lift_below wz X)
  go_wp2
  go_ret
  exact ⟨rfl, hfin⟩
end

section
open Go.RowKit Go.Lib
set_option linter.unusedVariables false

def validR (r : Rt) : Bool := decide (1 ≤ r.2) && (decide (r.2 ≤ 400) && (decide (-10000000000 ≤ r.1) && (decide (r.1 ≤ 10000000000) && decide (Int.gcd r.1 r.2 = 1))))
theorem validR_iff {r : Rt} : validR r = true ↔ 1 ≤ r.2 ∧ r.2 ≤ 400 ∧ -10000000000 ≤ r.1 ∧ r.1 ≤ 10000000000 ∧ Int.gcd r.1 r.2 = 1 := by
  unfold validR; simp only [Bool.and_eq_true, decide_eq_true_eq]

set_option maxRecDepth 100000 in
theorem fvalid_c (w : World) (N D : Int) : Calls Tryz.prog 63 #[.agg #[.int .i64 N, .int .i64 D]] w fun e w' => e = .returned (.bool (validR (N, D))) ∧ Below w.heap.size w w' := by
  obtain ⟨wz, hwz⟩ : ∃ wz, wz = w.alloc (.cells #[.int .i64 N, .int .i64 D] 57) := ⟨_, rfl⟩
  have hbz : Below w.heap.size w wz := by rw [hwz]; exact (Below.refl _ _).alloc (Nat.le_refl _) _
  have l0 : wz.cell? ⟨w.heap.size, 0, none⟩ = some (.int .i64 N) := by rw [hwz, World.cell?_alloc_at _ _ _ _ rfl]; rfl
  have l1 : wz.cell? ⟨w.heap.size, 1, none⟩ = some (.int .i64 D) := by rw [hwz, World.cell?_alloc_at _ _ _ _ rfl]; rfl
  have HBZ := hid hbz
  have HV := hid (show validR (N, D) = (decide (1 ≤ D) && (decide (D ≤ 400) && (decide (-10000000000 ≤ N) && (decide (N ≤ 10000000000) && decide (Int.gcd N D = 1))))) from rfl)
  clear hbz
  by_cases h1 : 1 ≤ D
  · by_cases h2 : D ≤ 400
    · by_cases h3 : -10000000000 ≤ N
      · by_cases h4 : N ≤ 10000000000
        · have HD := hid (fun X => divisor_c X N D (by omega) (by omega))
          obtain ⟨g, hg⟩ : ∃ g : Int, g = ((Int.gcd N D : Nat) : Int) := ⟨_, rfl⟩
          rw [← hg] at HD
          have HB := hid (show validR (N, D) = (g == 1) from by
            rw [HV.out, decide_eq_true h1, decide_eq_true h2, decide_eq_true h3, decide_eq_true h4]
            simp only [Bool.true_and]
            rw [Bool.eq_iff_iff, decide_eq_true_iff]
            simp only [beq_iff_eq]
            omega)
          have d1 : decide (1 ≤ D) = true := by simp; omega
          have d2 : decide (D ≤ 400) = true := by simp; omega
          have d3 : decide (-10000000000 ≤ N) = true := by simp; omega
          have d4 : decide (N ≤ 10000000000) = true := by simp; omega
          clear hg HV
          go_enter Tryz.func63, Tryz.ntmps63
          go_wp2_with fail
          rw [← hwz]
          clear hwz
          go_wp2_with (go_at_call 78; refine (HD.out _).mono ?_; rintro e w2 ⟨rfl, k2, rfl⟩; refine Stop.of ?_)
          refine Stop.go ?_
          go_wp2
          go_ret
          exact ⟨ret_bool (by rw [HB.out]), below_drewN HBZ.out k2⟩
        · have HB := hid (show validR (N, D) = false from by rw [HV.out, decide_eq_false h4]; simp)
          have d4 : decide (N ≤ 10000000000) = false := by simp; omega
          clear HV
          go_enter Tryz.func63, Tryz.ntmps63
          go_wp2_with fail
          rw [← hwz]
          clear hwz
          go_wp2
          go_ret
          exact ⟨ret_bool (by rw [HB.out]), HBZ.out⟩
      · have HB := hid (show validR (N, D) = false from by rw [HV.out, decide_eq_false h3]; simp)
        have d3 : decide (-10000000000 ≤ N) = false := by simp; omega
        clear HV
        go_enter Tryz.func63, Tryz.ntmps63
        go_wp2_with fail
        rw [← hwz]
        clear hwz
        go_wp2
        go_ret
        exact ⟨ret_bool (by rw [HB.out]), HBZ.out⟩
    · have HB := hid (show validR (N, D) = false from by rw [HV.out, decide_eq_false h2]; simp)
      have d2 : decide (D ≤ 400) = false := by simp; omega
      clear HV
      go_enter Tryz.func63, Tryz.ntmps63
      go_wp2_with fail
      rw [← hwz]
      clear hwz
      go_wp2
      go_ret
      exact ⟨ret_bool (by rw [HB.out]), HBZ.out⟩
  · have HB := hid (show validR (N, D) = false from by rw [HV.out, decide_eq_false h1]; simp)
    have d1 : decide (1 ≤ D) = false := by simp; omega
    clear HV
    go_enter Tryz.func63, Tryz.ntmps63
    go_wp2_with fail
    rw [← hwz]
    clear hwz
    go_wp2
    go_ret
    exact ⟨ret_bool (by rw [HB.out]), HBZ.out⟩

theorem linvalid_c (w : World) (N D : Int) : Calls Tryz.prog 30 #[.agg #[.int .i64 N, .int .i64 D]] w fun e w' => e = .returned (.bool (!validR (N, D))) ∧ Below w.heap.size w w' := by
  obtain ⟨wz, hwz⟩ : ∃ wz, wz = w.alloc (.cells #[.int .i64 N, .int .i64 D] 57) := ⟨_, rfl⟩
  have HB := hid (show Below w.heap.size w wz by rw [hwz]; exact (Below.refl _ _).alloc (Nat.le_refl _) _)
  have l0 : wz.cell? ⟨w.heap.size, 0, none⟩ = some (.int .i64 N) := by rw [hwz, World.cell?_alloc_at _ _ _ _ rfl]; rfl
  have l1 : wz.cell? ⟨w.heap.size, 1, none⟩ = some (.int .i64 D) := by rw [hwz, World.cell?_alloc_at _ _ _ _ rfl]; rfl
  have HV := hid (fvalid_c wz N D)
  obtain ⟨b, hb⟩ : ∃ b, b = validR (N, D) := ⟨_, rfl⟩
  rw [← hb] at HV ⊢
  clear hb
  go_enter Tryz.func30, Tryz.ntmps30
  go_wp2_with fail
  rw [← hwz]
  clear hwz
  go_wp2_with (go_at_call 63; refine HV.out.mono ?_; rintro e w2 ⟨rfl, hb2⟩; refine Stop.of ?_)
  refine Stop.go ?_
  go_wp2
  go_ret
  exact ⟨rfl, chain HB.out hb2⟩

theorem indexInv (w : World) (a : Option Addr) (n cap : Nat) (l : List Rt) (hn : l.length = n) (hm : n ≤ maxLen) (H : RatsAt w a l) :
    Calls Tryz.prog 62 #[.slice a n cap, .func (.func 30) #[] #[]] w fun e w' => e = .returned (.int .i64 (idxP (fun r => !validR r) l 0)) ∧ Below w.heap.size w w' := by
  have HN := hid hn
  have HH := hid H
  have HP := hid (fun (X : World) (N D : Int) => linvalid_c X N D)
  have eg := enters_of Tryz.func30 (by kernel_rfl) rfl
  clear hn H
  unfold maxLen at hm
  go_enter Tryz.func62, Tryz.ntmps62
  go_wp2
  go_loopw [8] (fun i wr => ∃ k : Nat, k ≤ n ∧ i = .int .i64 k ∧ Below w.heap.size w wr ∧ ∀ i y, i < k → l[i]? = some y → (!validR y) = false) (fun i _ => n - (intOf i).toNat)
  case atStart => exact ⟨0, Nat.zero_le _, rfl, Below.refl _ _, fun i y h => by omega⟩
  case round =>
    obtain ⟨k, hk, rfl, hb, hno⟩ := hrel
    have HNO := hid hno
    clear hno
    by_cases hlt : k < n
    · have hkl : k < l.length := by rw [HN.out]; exact hlt
      obtain ⟨b, off, rfl, hbs, h0, h1⟩ := (HH.out.below hb) k hkl
      have HK := hid (List.getElem?_eq_getElem hkl)
      obtain ⟨⟨r1, r2⟩, hr⟩ : ∃ r, r = l[k]'hkl := ⟨_, rfl⟩
      rw [← hr] at h0 h1 HK
      simp only [] at h0 h1
      have HC := hid (HP.out wr r1 r2)
      obtain ⟨B, hB⟩ : ∃ B, B = validR (r1, r2) := ⟨_, rfl⟩
      rw [← hB] at HC
      have HBB := hid hB.symm
      clear hr hB hkl
      go_wp2_with (refine HC.out.mono ?_; rintro e w1 ⟨rfl, hb1⟩; refine Stop.of ?_)
      refine Stop.go ?_
      cases B
      · go_wp2
        go_ret
        refine ⟨ret_int ?_, chain hb hb1⟩
        rw [idxP_at (fun r => !validR r) l 0 k _ HK.out (by simp [HBB.out]) HNO.out]; simp
      · go_wp2
        refine ⟨⟨k + 1, by omega, by go_num, chain hb hb1, ?_⟩, by simp [intOf]; omega⟩
        intro i y hi hy
        by_cases e : i = k
        · subst e; rw [HK.out] at hy; cases hy; simp [HBB.out]
        · exact HNO.out i y (by omega) hy
    · go_wp2
      go_ret
      refine ⟨ret_int ?_, hb⟩
      rw [idxP_neg]
      intro x hx
      obtain ⟨i, hi, e⟩ := List.getElem_of_mem hx
      exact HNO.out i x (by have := HN.out; omega) (by rw [List.getElem?_eq_getElem hi, e])

theorem containsInv (w : World) (a : Option Addr) (n cap : Nat) (l : List Rt) (hn : l.length = n) (hm : n ≤ maxLen) (H : RatsAt w a l) :
    Calls Tryz.prog 29 #[.slice a n cap, .func (.func 30) #[] #[]] w fun e w' => e = .returned (.bool (!l.all validR)) ∧ Below w.heap.size w w' := by
  have HC := hid (indexInv w a n cap l hn hm H)
  have HG := idxP_ge (fun r => !validR r) l 0
  have HG' := hid HG
  clear hn H HG
  go_enter Tryz.func29, Tryz.ntmps29
  go_wp2_with (refine HC.out.mono ?_; rintro e w1 ⟨rfl, hb1⟩)
  go_ret
  refine ⟨ret_bool ?_, hb1⟩
  rw [Bool.eq_iff_iff, decide_eq_true_iff, HG'.out, List.not_all_eq_any_not]

theorem lreading_c (w : World) (a a2 : Option Addr) (n cap n2 cap2 : Nat) (M : Mask) (y : List Int) (hn : M.length = n) (hn2 : y.length = n2) (hm : n ≤ maxLen) (hm2 : n2 ≤ maxLen) (H : RowsAt w a M) (H2 : IntsAt w a2 y) :
    Calls Tryz.prog 28 #[.slice a n cap, .slice a2 n2 cap2] w fun e w' => e = .returned (.bool (decide (rdE M y = 0))) ∧ Below w.heap.size w w' := by
  have HC := hid (check_c w a a2 none n cap n2 cap2 0 0 M y [] hn hn2 rfl hm hm2 (by decide) H H2 (fun j hj => by simp at hj))
  rw [← rd_check] at HC
  obtain ⟨E, hE⟩ : ∃ E, E = rdE M y := ⟨_, rfl⟩
  rw [← hE] at HC ⊢
  clear hE hn hn2 H H2
  go_enter Tryz.func28, Tryz.ntmps28
  go_wp2_with (go_at_call 20; refine HC.out.mono ?_; rintro e w1 ⟨rfl, hb1⟩; refine Stop.of ?_)
  refine Stop.go ?_
  go_wp2
  go_ret
  exact ⟨ret_bool (by rw [Bool.eq_iff_iff]; simp), hb1⟩
end
end Go.Proofs.YtfipebkhomppmaaGreat

namespace Go.Proofs.YtfipebkhomppmaaGreat
section
open Go.RowKit Go.Lib
set_option linter.unusedVariables false

def ratAt (x : List Rt) (k : Nat) : Rt := x[k]?.getD (0, 1)
def sumR (r : List Int) (x : List Rt) : Nat → Int × Int
  | 0 => (0, 1)
  | k + 1 => if vec r k ≠ 0 then ((sumR r x k).1 * (ratAt x k).2 + (sumR r x k).2 * ((ratAt x k).1 * vec r k), (sumR r x k).2 * (ratAt x k).2) else sumR r x k
theorem sumR_bnd {r : List Int} {x : List Rt} (h1 : ∀ k, -1 ≤ vec r k ∧ vec r k ≤ 1) (hx : ∀ k, 1 ≤ (ratAt x k).2 ∧ (ratAt x k).2 ≤ 400 ∧ -10000000000 ≤ (ratAt x k).1 ∧ (ratAt x k).1 ≤ 10000000000) :
    ∀ k : Nat, (sumR r x k).1.natAbs ≤ k * 10000000000 * 400 ^ k ∧ 1 ≤ (sumR r x k).2 ∧ (sumR r x k).2.natAbs ≤ 400 ^ k
  | 0 => by simp [sumR]
  | k + 1 => by
    obtain ⟨i1, i2, i3⟩ := sumR_bnd h1 hx k
    obtain ⟨x1, x2, x3, x4⟩ := hx k
    have hv := h1 k
    have hp : 400 ^ (k + 1) = 400 ^ k * 400 := Nat.pow_succ ..
    have hmono : 400 ^ k ≤ 400 ^ (k + 1) := by rw [hp]; omega
    rw [sumR]
    by_cases h0 : vec r k ≠ 0
    · rw [if_pos h0]
      simp only []
      generalize sumR r x k = s at i1 i2 i3
      generalize ratAt x k = q at x1 x2 x3 x4
      obtain ⟨s1, s2⟩ := s
      obtain ⟨q1, q2⟩ := q
      simp only [] at *
      have e1 : (s1 * q2).natAbs ≤ k * 10000000000 * 400 ^ k * 400 := by
        rw [Int.natAbs_mul]; exact Nat.mul_le_mul i1 (by omega)
      have e2 : (s2 * (q1 * vec r k)).natAbs ≤ 400 ^ k * 10000000000 := by
        rw [Int.natAbs_mul]
        refine Nat.mul_le_mul i3 ?_
        rw [Int.natAbs_mul]
        have : q1.natAbs * (vec r k).natAbs ≤ 10000000000 * 1 := Nat.mul_le_mul (by omega) (by omega)
        omega
      have e3 : (s2 * q2).natAbs ≤ 400 ^ k * 400 := by
        rw [Int.natAbs_mul]; exact Nat.mul_le_mul i3 (by omega)
      refine ⟨?_, ?_, by rw [hp]; exact e3⟩
      · have e4 : (k + 1) * 10000000000 * 400 ^ (k + 1) = k * 10000000000 * 400 ^ k * 400 + 400 ^ k * 10000000000 * 400 := by
          rw [hp]
          generalize 400 ^ k = P
          grind
        rw [e4]
        have e5 : 400 ^ k * 10000000000 ≤ 400 ^ k * 10000000000 * 400 := by omega
        omega
      · have := Int.mul_pos (show (0 : Int) < s2 by omega) (show (0 : Int) < q2 by omega)
        omega
    · rw [if_neg h0]
      refine ⟨?_, i2, Nat.le_trans i3 hmono⟩
      refine Nat.le_trans i1 ?_
      exact Nat.mul_le_mul (by omega) hmono
theorem sumR_bnd10 {r : List Int} {x : List Rt} (h1 : ∀ k, -1 ≤ vec r k ∧ vec r k ≤ 1) (hx : ∀ k, 1 ≤ (ratAt x k).2 ∧ (ratAt x k).2 ≤ 400 ∧ -10000000000 ≤ (ratAt x k).1 ∧ (ratAt x k).1 ≤ 10000000000) {k : Nat} (hk : k ≤ 10) :
    (sumR r x k).1.natAbs ≤ 10485760000000000000000000000000000000 ∧ 1 ≤ (sumR r x k).2 ∧ (sumR r x k).2.natAbs ≤ 104857600000000000000000000 := by
  obtain ⟨i1, i2, i3⟩ := sumR_bnd h1 hx k
  have hp : 400 ^ k ≤ 400 ^ 10 := Nat.pow_le_pow_right (by decide) hk
  have e10 : (400 : Nat) ^ 10 = 104857600000000000000000000 := by decide +kernel
  rw [e10] at hp
  refine ⟨?_, i2, by omega⟩
  refine Nat.le_trans i1 ?_
  have : k * 10000000000 * 400 ^ k ≤ 10 * 10000000000 * 104857600000000000000000000 := Nat.mul_le_mul (by omega) hp
  omega

theorem sumR_bnd9 {r : List Int} {x : List Rt} (h1 : ∀ k, -1 ≤ vec r k ∧ vec r k ≤ 1) (hx : ∀ k, 1 ≤ (ratAt x k).2 ∧ (ratAt x k).2 ≤ 400 ∧ -10000000000 ≤ (ratAt x k).1 ∧ (ratAt x k).1 ≤ 10000000000) {k : Nat} (hk : k ≤ 9) :
    (sumR r x k).1.natAbs * 400 ≤ 10485760000000000000000000000000000000 ∧ (sumR r x k).2.natAbs * 400 ≤ 104857600000000000000000000 := by
  obtain ⟨i1, i2, i3⟩ := sumR_bnd h1 hx k
  have hp : 400 ^ k ≤ 400 ^ 9 := Nat.pow_le_pow_right (by decide) hk
  have e9 : (400 : Nat) ^ 9 = 262144000000000000000000 := by decide +kernel
  rw [e9] at hp
  refine ⟨?_, by omega⟩
  have : k * 10000000000 * 400 ^ k ≤ 9 * 10000000000 * 262144000000000000000000 := Nat.mul_le_mul (by omega) hp
  omega

def makesB (M : Mask) (x : List Rt) (y : List Int) : Bool :=
  decide (rdE M y = 0) && (decide (x.length = colsM M) && (x.all validR && decide (∀ i, i < M.length → (sumR (M[i]?.getD []) x (colsM M)).1 = (sumR (M[i]?.getD []) x (colsM M)).2 * vec y i)))
theorem mk_no1 {M : Mask} {x : List Rt} {y : List Int} (h : rdE M y ≠ 0) : makesB M x y = false := by unfold makesB; rw [decide_eq_false h]; rfl
theorem mk_no2 {M : Mask} {x : List Rt} {y : List Int} (h : x.length ≠ colsM M) : makesB M x y = false := by unfold makesB; rw [decide_eq_false h]; simp
theorem mk_no3 {M : Mask} {x : List Rt} {y : List Int} (h : x.all validR = false) : makesB M x y = false := by unfold makesB; rw [h]; simp
theorem mk_no4 {M : Mask} {x : List Rt} {y : List Int} {i : Nat} (hi : i < M.length) (h : (sumR (M[i]?.getD []) x (colsM M)).1 ≠ (sumR (M[i]?.getD []) x (colsM M)).2 * vec y i) : makesB M x y = false := by
  have : decide (∀ i, i < M.length → (sumR (M[i]?.getD []) x (colsM M)).1 = (sumR (M[i]?.getD []) x (colsM M)).2 * vec y i) = false := decide_eq_false fun hh => h (hh i hi)
  unfold makesB; rw [this]; simp
theorem mk_yes {M : Mask} {x : List Rt} {y : List Int} (h1 : rdE M y = 0) (h2 : x.length = colsM M) (h3 : x.all validR = true) (h4 : ∀ i, i < M.length → (sumR (M[i]?.getD []) x (colsM M)).1 = (sumR (M[i]?.getD []) x (colsM M)).2 * vec y i) : makesB M x y = true := by
  unfold makesB; rw [decide_eq_true h1, decide_eq_true h2, h3, decide_eq_true h4]; rfl

def SumB (w : World) (g : Nat) (n d : Int) : Prop := w.heap[g]? = some (.cells #[.int .i64 (n / 18446744073709551616), .int .u64 (n % 18446744073709551616), .int .i64 (d / 18446744073709551616), .int .u64 (d % 18446744073709551616)] 64 (0, 0))
theorem SumB.lt {w : World} {g : Nat} {n d : Int} (h : SumB w g n d) : g < w.heap.size := (Array.getElem?_eq_some_iff.1 h).1
theorem SumB.keep {w w' : World} {g : Nat} {n d : Int} (h : SumB w g n d) (hk : w'.heap[g]? = w.heap[g]?) : SumB w' g n d := hk.trans h
theorem SumB.cells {w : World} {g : Nat} {n d n1 n2 d1 d2 : Int} (h : SumB w g n d) (pn : WP n n1 n2) (pd : WP d d1 d2) : w.cell? ⟨g, 0, none⟩ = some (.int .i64 n1) ∧ w.cell? ⟨g, 1, none⟩ = some (.int .u64 n2) ∧ w.cell? ⟨g, 2, none⟩ = some (.int .i64 d1) ∧ w.cell? ⟨g, 3, none⟩ = some (.int .u64 d2) ∧ ∀ o, w.frozen? ⟨g, o, none⟩ = false := by
  unfold SumB at h
  rw [pn.1, pn.2, pd.1, pd.2]
  exact ⟨by simp [World.cell?, h], by simp [World.cell?, h], by simp [World.cell?, h], by simp [World.cell?, h], fun o => by simp [World.frozen?, h]⟩
theorem SumB.set {w : World} {g : Nat} {n d m e a b c f : Int} (h : SumB w g n d) (pm : WP m a b) (pe : WP e c f) : SumB ((((w.setCell ⟨g, 0, none⟩ (.int .i64 a)).setCell ⟨g, 1, none⟩ (.int .u64 b)).setCell ⟨g, 2, none⟩ (.int .i64 c)).setCell ⟨g, 3, none⟩ (.int .u64 f)) g m e := by
  unfold SumB
  rw [cells_set (cells_set (cells_set (cells_set h 0 _) 1 _) 2 _) 3 _, pm.1, pm.2, pe.1, pe.2]
  simp
theorem SumB.made (w : World) {n d a b c f : Int} (pn : WP n a b) (pd : WP d c f) : SumB (w.alloc (.cells #[.int .i64 a, .int .u64 b, .int .i64 c, .int .u64 f] 64)) w.heap.size n d := by
  unfold SumB
  rw [World.alloc_heap_new, pn.1, pn.2, pd.1, pd.2]

set_option maxRecDepth 100000 in
set_option maxHeartbeats 4000000 in
theorem lmakes_c (w : World) (a a2 a3 : Option Addr) (n cap n2 cap2 n3 cap3 : Nat) (M : Mask) (x : List Rt) (y : List Int) (hn : M.length = n) (hn2 : x.length = n2) (hn3 : y.length = n3) (hm : n ≤ maxLen) (hm2 : n2 ≤ maxLen) (hm3 : n3 ≤ maxLen) (H : RowsAt w a M) (H2 : RatsAt w a2 x) (H3 : IntsAt w a3 y) :
    Calls Tryz.prog 13 #[.slice a n cap, .slice a2 n2 cap2, .slice a3 n3 cap3] w fun e w' => e = .returned (.bool (makesB M x y)) ∧ Below w.heap.size w w' := by
  have HRD := hid (lreading_c w a a3 n cap n3 cap3 M y hn hn3 hm hm3 H H3)
  have HN1 := hid (mk_no1 (M := M) (x := x) (y := y))
  have HN2 := hid (mk_no2 (M := M) (x := x) (y := y))
  have HN3 := hid (mk_no3 (M := M) (x := x) (y := y))
  obtain ⟨B, hB⟩ : ∃ B, B = makesB M x y := ⟨_, rfl⟩
  rw [← hB] at HN1 HN2 HN3 ⊢
  by_cases h0 : rdE M y = 0
  rotate_left
  · rw [decide_eq_false h0] at HRD
    obtain rfl : B = false := HN1.out h0
    clear hn hn2 hn3 H H2 H3 hB h0 HN2 HN3
    go_enter Tryz.func13, Tryz.ntmps13
    go_wp2_with (go_at_call 28; refine HRD.out.mono ?_; rintro e w1 ⟨rfl, hb1⟩)
    go_ret
    exact ⟨rfl, hb1⟩
  rw [decide_eq_true h0] at HRD
  obtain ⟨hok, hyl, hmil⟩ := rd_ok h0
  obtain ⟨hM, h1, h6, hc1, hc10⟩ := okM_ok hok
  obtain ⟨b, off, ra, rc, rfl, hb, hc⟩ := rows_head H (by omega)
  have HCC := hid (fun (X : World) (hX : Below w.heap.size w X) => show X.cell? ⟨b, off, none⟩ = some (.slice ra (colsM M) rc) from (hX.cell (p := ⟨b, off, none⟩) hb).trans hc)
  have HN4 := hid (fun i (hi : i < M.length) h => mk_no4 (x := x) (y := y) hi h)
  have HYS := hid (fun h2 h3 h4 => mk_yes (M := M) (x := x) (y := y) h0 h2 h3 h4)
  rw [← hB] at HYS HN4
  have i0 : (0 : Int) < (n : Int) := by omega
  have HCI := hid (fun (X : World) (hX : Below w.heap.size w X) => containsInv X a2 n2 cap2 x hn2 hm2 (H2.below hX))
  have HRW := hid (fun (X : World) (hX : Below w.heap.size w X) => H.below hX)
  have HXI := hid (fun (X : World) (hX : Below w.heap.size w X) => H2.below hX)
  have HYI := hid (fun (X : World) (hX : Below w.heap.size w X) => H3.below hX)
  have HMW := hid (show ∀ r ∈ M, r.length = colsM M ∧ ∀ k, -1 ≤ vec r k ∧ vec r k ≤ 1 from fun r hr => ⟨hM.wid r hr, hM.one r hr⟩)
  have HYB := hid (mil_le hmil)
  have HN := hid hn
  have HNX := hid hn2
  have HNY := hid hn3
  have HHN := hid (show n3 = n by omega)
  have hn6 : n ≤ 6 := by omega
  obtain ⟨W, hW⟩ : ∃ W, W = colsM M := ⟨_, rfl⟩
  rw [← hW] at HCC HN2 HN4 HYS HMW hc10 hc1
  clear hn hn2 hn3 H H2 H3 hB h0 hok hyl hmil hM h1 h6 hb hc HN1 hW
  by_cases hlw : n2 = W
  rotate_left
  · obtain rfl : B = false := HN2.out (by rw [HNX.out]; exact hlw)
    have hlb : ((n2 : Int) != (W : Int)) = true := by simp; omega
    clear HN3 HN4 HYS HCI HRW HXI HYI HMW HYB
    go_enter Tryz.func13, Tryz.ntmps13
    go_wp2_with (go_at_call 28; refine HRD.out.mono ?_; rintro e w1 ⟨rfl, hb1⟩; refine Stop.of ?_)
    refine Stop.go ?_
    have cc := HCC.out _ hb1
    go_wp2
    go_ret
    exact ⟨rfl, hb1⟩
  subst hlw
  have hlb : ((n2 : Int) != (n2 : Int)) = false := by simp
  obtain ⟨V, hV⟩ : ∃ V, V = !x.all validR := ⟨_, rfl⟩
  rw [← hV] at HCI
  have HVV := hid hV.symm
  clear hV
  go_enter Tryz.func13, Tryz.ntmps13
  go_wp2_with (go_at_call 28; refine HRD.out.mono ?_; rintro e w1 ⟨rfl, hb1⟩; refine Stop.of ?_)
  refine Stop.go ?_
  have cc := HCC.out _ hb1
  have HB1 := hid hb1
  have HCI1 := hid (HCI.out _ hb1)
  clear hb1 HCI HRD
  go_wp2_with (go_at_call 29; refine HCI1.out.mono ?_; rintro e w2 ⟨rfl, hb2⟩; refine Stop.of ?_)
  refine Stop.go ?_
  have HB2 := hid (chain HB1.out hb2)
  clear hb2 HB1 HCI1 cc HCC
  cases V
  rotate_left
  · obtain rfl : B = false := HN3.out (by have := HVV.out; simpa using this)
    go_wp2
    go_ret
    exact ⟨rfl, HB2.out⟩
  · have hall : x.all validR = true := by have := HVV.out; simpa using this
    have hxv : ∀ k, 1 ≤ (ratAt x k).2 ∧ (ratAt x k).2 ≤ 400 ∧ -10000000000 ≤ (ratAt x k).1 ∧ (ratAt x k).1 ≤ 10000000000 := fun k => by
      unfold ratAt
      cases e : x[k]? with
      | none => decide
      | some r =>
        have := List.all_eq_true.1 hall r (List.mem_of_getElem? e)
        rw [validR_iff] at this
        exact ⟨this.1, this.2.1, this.2.2.1, this.2.2.2.1⟩
    have HXV := hid hxv
    have HYS2 := hid (HYS.out HNX.out hall)
    clear hall hxv HN2 HN3 HYS HVV
    go_wp2
    go_loopw [31] (fun i wr => ∃ k : Nat, k ≤ n ∧ i = .int .i64 k ∧ Below w.heap.size w wr ∧ Hid (∀ q, q < k → (sumR (M[q]?.getD []) x n2).1 = (sumR (M[q]?.getD []) x n2).2 * vec y q)) (fun i _ => n - (intOf i).toNat)
    case atStart => exact ⟨0, Nat.zero_le _, rfl, HB2.out, hid (fun q h => by omega)⟩
    case round =>
      obtain ⟨k, hk, rfl, hbk, HQ⟩ := hrel
      by_cases hlt : k < n
      · have hkM : k < M.length := by rw [HN.out]; exact hlt
        obtain ⟨b5, o5, ra5, rn5, rc5, e5, hb5, hc5, hrn5, hrm5, hri5⟩ := (HRW.out wr hbk) k hkM
        cases e5
        obtain ⟨hwid, hone⟩ := HMW.out _ (List.getElem_mem hkM)
        obtain rfl : rn5 = n2 := by omega
        have hrowe : M[k]?.getD [] = M[k] := by rw [List.getElem?_eq_getElem hkM]; rfl
        have HNK := hid (HN4.out k hkM)
        rw [hrowe] at HNK
        have HQX := hid (fun (h : (sumR M[k] x rn5).1 = (sumR M[k] x rn5).2 * vec y k) => show ∀ q, q < k + 1 → (sumR (M[q]?.getD []) x rn5).1 = (sumR (M[q]?.getD []) x rn5).2 * vec y q from fun q hq => by
          rcases Nat.lt_or_ge q k with h3 | h3
          · exact HQ.out q h3
          · obtain rfl : q = k := by omega
            rw [hrowe]; exact h)
        obtain ⟨R, hR⟩ : ∃ R, R = M[k] := ⟨_, rfl⟩
        rw [← hR] at hri5 hone hwid HNK HQX
        have HBD := hid (fun j (hj : j ≤ 10) => sumR_bnd10 hone HXV.out hj)
        have HBD9 := hid (fun j (hj : j ≤ 9) => sumR_bnd9 hone HXV.out hj)
        have HRI := hid (fun (X : World) (hX : Below wr.heap.size wr X) => hri5.below hX)
        have HONE := hid hone
        have HWID := hid hwid
        have HBK := hid hbk
        have i1 : (k : Int) < (n : Int) := by omega
        clear hR hrowe hri5 hrn5 hkM hone hwid hbk HN4 HQ
        go_wp2_with (go_at_call 31; refine (wzero_c _).mono ?_; rintro e w3 ⟨rfl, hb3⟩; refine Stop.of ?_)
        refine Stop.go ?_
        have hz : sumV 0 1 = .agg #[.int .i64 0, .int .u64 0, .int .i64 0, .int .u64 1] := by simp [sumV]
        rw [hz]
        clear hz
        go_wp2_with fail
        obtain ⟨wb, hwb⟩ : ∃ wb, wb = w3.alloc (.cells #[.int .i64 0, .int .u64 0, .int .i64 0, .int .u64 1] 64) := ⟨_, rfl⟩
        obtain ⟨g, hg⟩ : ∃ g, g = w3.heap.size := ⟨_, rfl⟩
        have hsb : SumB wb g 0 1 := by rw [hwb, hg]; exact SumB.made w3 ⟨by decide, by decide⟩ ⟨by decide, by decide⟩
        have hbb : Below w3.heap.size w3 wb := by rw [hwb]; exact (Below.refl _ _).alloc (Nat.le_refl _) _
        rw [← hwb, ← hg]
        have HSB := hid hsb
        have HBB := hid hbb
        have HB3 := hid hb3
        have HG := hid hg
        clear hwb hg hsb hbb hb3
        obtain ⟨wo, hwo⟩ : ∃ wo, wo = wr := ⟨_, rfl⟩
        subst hwo
        go_loopw [39] (fun i wr => ∃ t : Nat, t ≤ rn5 ∧ i = .int .i64 t ∧ SumB wr g (sumR R x t).1 (sumR R x t).2 ∧ Below w3.heap.size w3 wr) (fun i _ => rn5 - (intOf i).toNat)
        case atStart => exact ⟨0, Nat.zero_le _, rfl, HSB.out, HBB.out⟩
        case round =>
          obtain ⟨t, ht, rfl, hsb, hbt⟩ := hrel
          by_cases htl : t < rn5
          · have hbw : Below wo.heap.size wo wr := HB3.out.trans (hbt.mono HB3.out.size)
            obtain ⟨b6, o6, rfl, hb6, hc6⟩ := (HRI.out wr hbw) t (by rw [HWID.out]; exact htl)
            have hv6 : R[t]?.getD 0 = vec R t := rfl
            rw [hv6] at hc6
            have hone := HONE.out t
            have hsr : sumR R x (t + 1) = if vec R t ≠ 0 then ((sumR R x t).1 * (ratAt x t).2 + (sumR R x t).2 * ((ratAt x t).1 * vec R t), (sumR R x t).2 * (ratAt x t).2) else sumR R x t := rfl
            obtain ⟨v, hv⟩ : ∃ v, v = vec R t := ⟨_, rfl⟩
            rw [← hv] at hc6 hsr hone
            by_cases h0 : v = 0
            · rw [if_neg (by simp [h0])] at hsr
              have hvb : (v != 0) = false := by simp [h0]
              have HSR := hid hsr
              have HSX := hid hsb
              have HBT := hid hbt
              clear hv6 hv hsr hsb hbt hbw
              go_wp2
              refine ⟨⟨t + 1, by omega, by go_num, by rw [HSR.out]; exact HSX.out, HBT.out⟩, by simp [intOf]; omega⟩
            · rw [if_pos h0] at hsr
              have hvb : (v != 0) = true := by simp [h0]
              obtain ⟨k1, k2, k3⟩ := HBD.out t (by omega)
              obtain ⟨m1, m2, m3⟩ := HBD.out (t + 1) (by omega)
              obtain ⟨z1, z2⟩ := HBD9.out t (by omega)
              obtain ⟨x1, x2, x3, x4⟩ := HXV.out t
              obtain ⟨bx, ox, rfl, hbx, hx0, hx1⟩ := (HXI.out wr (chain HBK.out hbw)) t (by rw [HNX.out]; exact htl)
              have hxt : ratAt x t = x[t]'(by rw [HNX.out]; exact htl) := by unfold ratAt; rw [List.getElem?_eq_getElem (by rw [HNX.out]; exact htl)]; rfl
              rw [← hxt] at hx0 hx1
              rw [hsr] at m1 m2 m3
              have HSR := hid hsr
              obtain ⟨⟨N, D⟩, hND⟩ : ∃ q, q = ratAt x t := ⟨_, rfl⟩
              rw [← hND] at hx0 hx1 m1 m2 m3 x1 x2 x3 x4 HSR
              obtain ⟨⟨sn, sd⟩, hS⟩ : ∃ q, q = sumR R x t := ⟨_, rfl⟩
              rw [← hS] at hsb k1 k2 k3 m1 m2 m3 z1 z2 HSR
              simp only [] at hx0 hx1 m1 m2 m3 x1 x2 x3 x4 HSR hsb k1 k2 k3 z1 z2
              have e1 : (sn * D).natAbs ≤ 10485760000000000000000000000000000000 := by
                rw [Int.natAbs_mul]
                have : sn.natAbs * D.natAbs ≤ sn.natAbs * 400 := Nat.mul_le_mul_left _ (by omega)
                omega
              have e2 : (sd * (N * v)).natAbs ≤ 104857600000000000000000000 * 10000000000 := by
                rw [Int.natAbs_mul, Int.natAbs_mul]
                exact Nat.mul_le_mul k3 (by have : N.natAbs * v.natAbs ≤ 10000000000 * 1 := Nat.mul_le_mul (by omega) (by omega); omega)
              have e3 : -10000000000 ≤ N * v ∧ N * v ≤ 10000000000 := by
                have : (N * v).natAbs ≤ 10000000000 * 1 := by rw [Int.natAbs_mul]; exact Nat.mul_le_mul (by omega) (by omega)
                omega
              have HPL := hid (fun (X : World) => splus_c X sn sd N D v (by unfold B127; omega) (by unfold B127; omega) (by omega) (by omega) (by unfold B127; omega) (by unfold B127; omega) (by unfold B127; omega) (by unfold B127; omega))
              obtain ⟨n1, n2, pn⟩ := WP.ex sn
              obtain ⟨d1, d2, pd⟩ := WP.ex sd
              obtain ⟨s1, s2, pS⟩ := WP.ex (sn * D + sd * (N * v))
              obtain ⟨q1, q2, pC⟩ := WP.ex (sd * D)
              rw [pn.sum pd, pS.sum pC] at HPL
              simp only [ratV] at HPL
              have HSS := hid (fun (X : World) (hX : SumB X g sn sd) => hX.set pS pC)
              have hcel := hsb.cells pn pd
              have hgl := hsb.lt
              have HSX := hid hsb
              have HBT := hid hbt
              have HS := hid (fun (X : World) (hX : Below wr.heap.size wr X) => show X.cell? ⟨g, 0, none⟩ = some (.int .i64 n1) ∧ X.cell? ⟨g, 1, none⟩ = some (.int .u64 n2) ∧ X.cell? ⟨g, 2, none⟩ = some (.int .i64 d1) ∧ X.cell? ⟨g, 3, none⟩ = some (.int .u64 d2) ∧ X.cell? ⟨bx, ox + t * 2, none⟩ = some (.int .i64 N) ∧ X.cell? ⟨bx, ox + t * 2 + 1, none⟩ = some (.int .i64 D) from
                ⟨(hX.cell (p := ⟨g, 0, none⟩) hgl).trans hcel.1, (hX.cell (p := ⟨g, 1, none⟩) hgl).trans hcel.2.1, (hX.cell (p := ⟨g, 2, none⟩) hgl).trans hcel.2.2.1, (hX.cell (p := ⟨g, 3, none⟩) hgl).trans hcel.2.2.2.1, (hX.cell (p := ⟨bx, _, none⟩) hbx).trans hx0, (hX.cell (p := ⟨bx, _, none⟩) hbx).trans hx1⟩)
              have htl2 : (t : Int) < (rn5 : Int) := by omega
              clear hv6 hv hsr hsb hbt hbw k1 k2 k3 m1 m2 m3 z1 z2 x1 x2 x3 x4 e1 e2 e3 hND hS pn pd pS pC hcel hx0 hx1 hxt
              go_wp2
              refine plain_region (fun j' X => decide (j' ≤ 6) = true → X.cell? ⟨g, 0, none⟩ = some (.int .i64 n1) ∧ X.cell? ⟨g, 1, none⟩ = some (.int .u64 n2) ∧ X.cell? ⟨g, 2, none⟩ = some (.int .i64 d1) ∧ X.cell? ⟨g, 3, none⟩ = some (.int .u64 d2) ∧ X.cell? ⟨bx, ox + t * 2, none⟩ = some (.int .i64 N) ∧ X.cell? ⟨bx, ox + t * 2 + 1, none⟩ = some (.int .i64 D)) (by kernel_rfl) ?_
              have hbd : Below wr.heap.size wr wr.drew := (Below.refl _ _).drew
              have HSXd := hid (HSX.out.keep (w' := wr.drew) rfl)
              generalize wr.drew = wd at hbd HSXd ⊢
              refine AnyT.takeD (i := 0) (v := .agg #[.int .i64 n1, .int .u64 n2, .int .i64 d1, .int .u64 d2]) rfl rfl (by kernel_rfl) (by kernel_rfl) (by kernel_rfl) (by first | exact (fun _ _ _ h => h) | exact (fun _ _ _ h => absurd h.1 (by simp))) (by kernel_rfl) (by rfl) (by rintro w' ⟨y1, y2, y3, y4, y5, y6⟩; go_simp) (HS.out _ hbd) ?_; go_frame
              refine AnyT.takeD (i := 1) (v := .slice (some ⟨bx, ox, none⟩) rn5 cap2) rfl rfl (by kernel_rfl) (by kernel_rfl) (by kernel_rfl) (by first | exact (fun _ _ _ h => h) | exact (fun _ _ _ h => absurd h.1 (by simp))) (by kernel_rfl) (by rfl) (by rintro w' ⟨y1, y2, y3, y4, y5, y6⟩; go_simp) (HS.out _ hbd) ?_; go_frame
              refine AnyT.takeD (i := 2) (v := .int .i64 t) rfl rfl (by kernel_rfl) (by kernel_rfl) (by kernel_rfl) (by first | exact (fun _ _ _ h => h) | exact (fun _ _ _ h => absurd h.1 (by simp))) (by kernel_rfl) (by rfl) (by rintro w' ⟨y1, y2, y3, y4, y5, y6⟩; go_simp) (HS.out _ hbd) ?_; go_frame
              refine AnyT.takeD (i := 3) (v := .pointer (some ⟨bx, ox + t * 2, none⟩)) rfl rfl (by kernel_rfl) (by kernel_rfl) (by kernel_rfl) (by first | exact (fun _ _ _ h => h) | exact (fun _ _ _ h => absurd h.1 (by simp))) (by kernel_rfl) (by rfl) (by rintro w' ⟨y1, y2, y3, y4, y5, y6⟩; go_simp) (HS.out _ hbd) ?_; go_frame
              refine AnyT.takeD (i := 4) (v := .agg #[.int .i64 N, .int .i64 D]) rfl rfl (by kernel_rfl) (by kernel_rfl) (by kernel_rfl) (by first | exact (fun _ _ _ h => h) | exact (fun _ _ _ h => absurd h.1 (by simp))) (by kernel_rfl) (by rfl) (by rintro w' ⟨y1, y2, y3, y4, y5, y6⟩; go_simp) (HS.out _ hbd) ?_; go_frame
              refine AnyT.takeD (i := 5) (v := .int .i64 v) rfl rfl (by kernel_rfl) (by kernel_rfl) (by kernel_rfl) (by first | exact (fun _ _ _ h => h) | exact (fun _ _ _ h => absurd h.1 (by simp))) (by kernel_rfl) (by rfl) (by rintro w' ⟨y1, y2, y3, y4, y5, y6⟩; go_simp) (HS.out _ hbd) ?_; go_frame
              refine AnyT.next (i := 6) (by kernel_rfl) rfl (wpOp_of_list rfl ?_)
              go_wp2_with (go_at_call 32; refine (HPL.out _).mono ?_; rintro e w4 ⟨rfl, hb4⟩; refine Stop.of ?_)
              refine Stop.go ?_
              have HB4 := hid (chain hbd hb4)
              have hs4 := HSXd.out.keep (hb4.block g HSXd.out.lt)
              obtain ⟨y1, y2, y3, y4, y5, y6⟩ := HS.out _ HB4.out
              have hfz : ∀ o, w4.frozen? ⟨g, o, none⟩ = false := by
                obtain ⟨_, _, p1⟩ := WP.ex sn
                obtain ⟨_, _, p2⟩ := WP.ex sd
                exact (hs4.cells p1 p2).2.2.2.2
              have f0 := hfz 0
              have f1 := hfz 1
              have f2 := hfz 2
              have f3 := hfz 3
              have HST := hid (HSS.out w4 hs4)
              have hg4 : g < w4.heap.size := hs4.lt
              have HBE := hid (show Below w3.heap.size w3 ((((w4.setCell ⟨g, 0, none⟩ (.int .i64 s1)).setCell ⟨g, 1, none⟩ (.int .u64 s2)).setCell ⟨g, 2, none⟩ (.int .i64 q1)).setCell ⟨g, 3, none⟩ (.int .u64 q2)) from by
                have hg3 : w3.heap.size ≤ g := by rw [HG.out]; exact Nat.le_refl _
                exact below_set (below_set (below_set (below_set (HBT.out.trans (HB4.out.mono HBT.out.size)) hg3 0 _) hg3 1 _) hg3 2 _) hg3 3 _)
              clear hs4 hfz HSS HPL hb4 HSXd hbd
              go_wp2
              refine ⟨fun _ => HS.out _ HB4.out, ?_⟩
              refine AnyT.next (i := 7) (by kernel_rfl) rfl (wpOp_of_list rfl ?_)
              go_wp2
              refine ⟨fun h => absurd h (by decide), ?_⟩
              refine AnyT.done (by kernel_rfl) ?_ _
              go_wp2
              refine ⟨⟨t + 1, by omega, by go_num, ?_, HBE.out⟩, by simp [intOf]; omega⟩
              rw [HSR.out]
              exact HST.out
          · obtain rfl : t = rn5 := by omega
            have hbw : Below wo.heap.size wo wr := HB3.out.trans (hbt.mono HB3.out.size)
            obtain ⟨k1, k2, k3⟩ := HBD.out t (by omega)
            have hkY : k < y.length := by rw [HNY.out, HHN.out]; exact hlt
            obtain ⟨by7, oy7, rfl, hby, hcy⟩ := (HYI.out wr (chain HBK.out hbw)) k hkY
            have hvy : y[k]?.getD 0 = vec y k := rfl
            rw [hvy] at hcy
            have hyb := vec_mem (P := fun z => -1000000 ≤ z ∧ z ≤ 1000000) (by decide) HYB.out k
            obtain ⟨yv, hyv⟩ : ∃ v, v = vec y k := ⟨_, rfl⟩
            rw [← hyv] at hcy hyb HNK HQX
            obtain ⟨⟨sn, sd⟩, hS⟩ : ∃ q, q = sumR R x t := ⟨_, rfl⟩
            rw [← hS] at hsb k1 k2 k3 HNK HQX
            simp only [] at hsb k1 k2 k3 HNK HQX
            have e2 : (sd * yv).natAbs ≤ 104857600000000000000000000 * 1000000 := by
              rw [Int.natAbs_mul]
              exact Nat.mul_le_mul k3 (by omega)
            have HCP := hid (fun (X : World) => scompare_c X sn sd yv (by unfold B127; omega) (by omega) (by unfold B127; omega))
            obtain ⟨n1, n2, pn⟩ := WP.ex sn
            obtain ⟨d1, d2, pd⟩ := WP.ex sd
            rw [pn.sum pd] at HCP
            obtain ⟨z0, z1, z2, z3, _⟩ := hsb.cells pn pd
            have l0 := lift_cell hsb.lt z0
            have l1 := lift_cell hsb.lt z1
            have l2 := lift_cell hsb.lt z2
            have l3 := lift_cell hsb.lt z3
            have l4 := lift_cell hby hcy
            have hcz : (cmpI sn (sd * yv) = 0 ↔ sn = sd * yv) := by unfold cmpI; split <;> (try split) <;> omega
            obtain ⟨cv, hcv⟩ : ∃ c, c = cmpI sn (sd * yv) := ⟨_, rfl⟩
            rw [← hcv] at HCP hcz
            have HCZ := hid hcz
            have HBT := hid (chain HBK.out hbw)
            have i3 : (k : Int) < (n3 : Int) := by have := HHN.out; omega
            have i4 : (0 : Int) ≤ (k : Int) := by omega
            clear hbw hkY hvy hyv hS hsb k1 k2 k3 e2 pn pd z0 z1 z2 z3 hcv hcz hcy hbt hyb
            go_wp2
            refine region_lift (by kernel_rfl) (by kernel_rfl) ?_
            repeat (go_big_quiet_step ((go_at_call 33; exact lift_calls (HCP.out _))))
            refine wpQuiet_nil ?_
            rintro _ ⟨X, rfl⟩
            have HFB := hid (chain HBT.out (lift_below wr X))
            clear l0 l1 l2 l3 l4
            by_cases hc0 : cv = 0
            · have hcb : (cv != 0) = false := by simp [hc0]
              have HX := hid (HQX.out (HCZ.out.1 hc0))
              go_wp2
              exact ⟨⟨k + 1, by omega, by go_num, HFB.out, HX⟩, by simp [intOf]; omega⟩
            · have hcb : (cv != 0) = true := by simp [hc0]
              obtain rfl : B = false := HNK.out (fun h => hc0 (HCZ.out.2 h))
              go_wp2
              go_ret
              exact ⟨rfl, HFB.out⟩
      · obtain rfl : k = n := by omega
        obtain rfl : B = true := HYS2.out (fun i hi => HQ.out i (by have := HN.out; omega))
        go_wp2
        go_ret
        exact ⟨rfl, hbk⟩
end

section
open Go.RowKit Go.Lib
set_option linter.unusedVariables false

def denyB (M : Mask) (y z : List Int) : Bool := decide (rdE M y = 0) && (preB M z && (nilB (backF M (colsM M) z) && decide (dotV z y ≠ 0)))
theorem dn_no1 {M : Mask} {y z : List Int} (h : rdE M y ≠ 0) : denyB M y z = false := by unfold denyB; rw [decide_eq_false h]; rfl
theorem dn_no2 {M : Mask} {y z : List Int} (h : preB M z = false) : denyB M y z = false := by unfold denyB; rw [h]; simp
theorem dn_no3 {M : Mask} {y z : List Int} (h : nilB (backF M (colsM M) z) = false) : denyB M y z = false := by unfold denyB; rw [h]; simp
theorem dn_rest {M : Mask} {y z : List Int} (h1 : rdE M y = 0) (h2 : preB M z = true) (h3 : nilB (backF M (colsM M) z) = true) : denyB M y z = decide (dotV z y ≠ 0) := by unfold denyB; rw [decide_eq_true h1, h2, h3]; rfl

theorem deny1 (w : World) : PredI Tryz.prog 41 #[] w (fun n => decide (n ≠ 0)) := by
  intro x W hb
  by_cases h : x = 0
  · subst h
    go_enter Tryz.func41, Tryz.ntmps41
    go_wp2
    go_ret
    exact ⟨rfl, Below.refl _ _⟩
  · have hd : (x != 0) = true := by simpa using h
    have hd2 : decide (x ≠ 0) = true := by simpa using h
    go_enter Tryz.func41, Tryz.ntmps41
    go_wp2
    go_ret
    exact ⟨ret_bool hd2.symm, Below.refl _ _⟩

theorem ne_b (v : Int) : (v != 0) = decide (v ≠ 0) := by rw [Bool.eq_iff_iff]; simp

set_option maxHeartbeats 1000000 in
theorem ldenies_c (w : World) (a a2 a3 : Option Addr) (n cap n2 cap2 n3 cap3 : Nat) (M : Mask) (y z : List Int) (hn : M.length = n) (hn2 : y.length = n2) (hn3 : z.length = n3) (hm : n ≤ maxLen) (hm2 : n2 ≤ maxLen) (hm3 : n3 ≤ maxLen) (H : RowsAt w a M) (H2 : IntsAt w a2 y) (H3 : IntsAt w a3 z) :
    Calls Tryz.prog 15 #[.slice a n cap, .slice a2 n2 cap2, .slice a3 n3 cap3] w fun e w' => e = .returned (.bool (denyB M y z)) ∧ Below w.heap.size w w' := by
  have HBK := hid (lback_c w a a3 n cap n3 cap3 M z hn hn3 hm hm3 H H3)
  have HRD := hid (fun (X : World) (hX : Below w.heap.size w X) => lreading_c X a a2 n cap n2 cap2 M y hn hn2 hm hm2 (H.below hX) (H2.below hX))
  have HN1 := hid (dn_no1 (M := M) (y := y) (z := z))
  have HN2 := hid (dn_no2 (M := M) (y := y) (z := z))
  have HN3 := hid (dn_no3 (M := M) (y := y) (z := z))
  have HRS := hid (dn_rest (M := M) (y := y) (z := z))
  have hdp : (n : Int) = n := rfl
  have HDT := hid (fun (h1 : rdE M y = 0) (h2 : preB M z = true) (X : World) (hX : Below w.heap.size w X) => by
    obtain ⟨hok, hyl, hmil⟩ := rd_ok h1
    obtain ⟨_, hzl, hzm⟩ := pre_ok h2
    obtain ⟨_, _, h6, _⟩ := okM_ok hok
    exact pdot_c X a3 a2 n3 cap3 n2 cap2 z y hn3 hn2 (by omega) (by omega) (H3.below hX) (H2.below hX) (mil_bnd hzm) (mil_bnd hmil))
  have HW10 := hid (show preB M z = true → colsM M ≤ 10 from fun h2 => by
    obtain ⟨hok, _⟩ := pre_ok h2
    exact (okM_ok hok).2.2.2.2)
  have HBL := hid (backF_len M (colsM M) z)
  obtain ⟨B, hB⟩ : ∃ B, B = denyB M y z := ⟨_, rfl⟩
  rw [← hB] at HN1 HN2 HN3 HRS ⊢
  obtain ⟨Bk, hBk⟩ : ∃ B, B = backF M (colsM M) z := ⟨_, rfl⟩
  rw [← hBk] at HN3 HRS HBL HBK
  obtain ⟨W, hW⟩ : ∃ W, W = colsM M := ⟨_, rfl⟩
  rw [← hW] at HBK HBL HW10
  obtain ⟨RB, hRB⟩ : ∃ B, B = decide (rdE M y = 0) := ⟨_, rfl⟩
  rw [← hRB] at HRD
  have HRB := hid hRB.symm
  clear hn hn2 hn3 H H2 H3 hB hBk hW hRB hdp
  go_enter Tryz.func15, Tryz.ntmps15
  go_wp2_with (go_at_call 39; refine HBK.out.mono ?_; rintro e w1 ⟨hb1, ⟨hp, rfl⟩ | ⟨hp, v1, base1, rfl, ho1⟩⟩; all_goals refine Stop.of ?_)
  · refine Stop.go ?_
    obtain rfl : B = false := HN2.out hp
    go_wp2
    go_ret
    exact ⟨rfl, hb1⟩
  · refine Stop.go ?_
    obtain ⟨ba, bc, rfl, hbi, hbm⟩ := ints_of_own ho1 HBL.out
    have HB1 := hid hb1
    have HBI := hid hbi
    have HP := hid hp
    have HR1 := hid (HRD.out _ hb1)
    clear hb1 ho1 hbi hp HRD HBK HN2
    go_wp2_with (go_at_call 28; refine HR1.out.mono ?_; rintro e w2 ⟨rfl, hb2⟩; refine Stop.of ?_)
    refine Stop.go ?_
    have HB2 := hid (chain HB1.out hb2)
    have HBI2 := hid (HBI.out.below hb2)
    clear hb2 HBI HR1 HB1
    cases RB
    · obtain rfl : B = false := HN1.out (of_decide_eq_false HRB.out)
      go_wp2
      go_ret
      exact ⟨rfl, HB2.out⟩
    · have hr0 := of_decide_eq_true HRB.out
      have HCF := hid (containsI w2 ba W bc Bk HBL.out hbm HBI2.out 41 #[] (fun n => decide (n ≠ 0)) (enters_of Tryz.func41 (by kernel_rfl) rfl) (deny1 w2))
      rw [any_nil] at HCF
      have HDT2 := hid (HDT.out hr0 HP.out)
      have HRS2 := hid (HRS.out hr0 HP.out)
      obtain ⟨nb, hnb⟩ : ∃ nb, nb = !nilB Bk := ⟨_, rfl⟩
      rw [← hnb] at HCF
      have HNB := hid hnb
      clear hr0 hnb HDT HRS HN1 HRB
      go_wp2_with (go_at_call 40; refine HCF.out.mono ?_; rintro e w3 ⟨rfl, hb3⟩; refine Stop.of ?_)
      refine Stop.go ?_
      have HB3 := hid (chain HB2.out hb3)
      clear hb3
      cases nb
      · have hnt : nilB Bk = true := by have := HNB.out; simpa using this.symm
        have HD3 := hid (HDT2.out w3 HB3.out)
        have HRS3 := hid (HRS2.out hnt)
        obtain ⟨d, hd⟩ : ∃ d, d = dotV z y := ⟨_, rfl⟩
        rw [← hd] at HD3 HRS3
        clear hnt hd HDT2 HRS2 HNB
        go_wp2_with (go_at_call 42; refine HD3.out.mono ?_; rintro e w4 ⟨rfl, k4, rfl⟩; refine Stop.of ?_)
        refine Stop.go ?_
        go_wp2
        go_ret
        exact ⟨ret_bool (by rw [HRS3.out, ne_b]), below_drewN HB3.out k4⟩
      · obtain rfl : B = false := HN3.out (by have := HNB.out; simpa using this.symm)
        go_wp2
        go_ret
        exact ⟨rfl, HB3.out⟩

theorem r3Reading_c (w : World) (a a2 : Option Addr) (n cap n2 cap2 : Nat) (M : Mask) (y : List Int) (hn : M.length = n) (hn2 : y.length = n2) (hm : n ≤ maxLen) (hm2 : n2 ≤ maxLen) (H : RowsAt w a M) (H2 : IntsAt w a2 y) :
    Calls Tryz.prog 34 #[.slice a n cap, .slice a2 n2 cap2] w fun e w' => e = .returned (.bool (decide (rdE M y = 0))) ∧ w = w' := by
  have HC := hid (r3Read_c w a a2 n cap n2 cap2 M y hn hn2 hm hm2 H H2)
  obtain ⟨E, hE⟩ : ∃ E, E = rdE M y := ⟨_, rfl⟩
  rw [← hE] at HC ⊢
  clear hE hn hn2 H H2
  go_enter Tryz.func34, Tryz.ntmps34
  go_wp2_with (go_at_call 25; refine HC.out.mono ?_; rintro e w1 ⟨rfl, rfl⟩; refine Stop.of ?_)
  refine Stop.go ?_
  go_wp2
  go_ret
  exact ⟨ret_bool (by rw [Bool.eq_iff_iff]; simp), rfl⟩

set_option maxHeartbeats 1000000 in
theorem r3Denies_c (w : World) (a a2 a3 : Option Addr) (n cap n2 cap2 n3 cap3 : Nat) (M : Mask) (y z : List Int) (hn : M.length = n) (hn2 : y.length = n2) (hn3 : z.length = n3) (hm : n ≤ maxLen) (hm2 : n2 ≤ maxLen) (hm3 : n3 ≤ maxLen) (H : RowsAt w a M) (H2 : IntsAt w a2 y) (H3 : IntsAt w a3 z) :
    Calls Tryz.prog 14 #[.slice a n cap, .slice a2 n2 cap2, .slice a3 n3 cap3] w fun e w' => e = .returned (.bool (denyB M y z)) ∧ Below w.heap.size w w' := by
  have HRD := hid (r3Reading_c w a a2 n cap n2 cap2 M y hn hn2 hm hm2 H H2)
  have HML := hid (million_c w a3 n3 cap3 z hn3 hm3 H3)
  have HN1 := hid (dn_no1 (M := M) (y := y) (z := z))
  have HN2 := hid (dn_no2 (M := M) (y := y) (z := z))
  have HN3 := hid (dn_no3 (M := M) (y := y) (z := z))
  have HRS := hid (dn_rest (M := M) (y := y) (z := z))
  obtain ⟨B, hB⟩ : ∃ B, B = denyB M y z := ⟨_, rfl⟩
  rw [← hB] at HN1 HN2 HN3 HRS ⊢
  by_cases h0 : rdE M y = 0
  rotate_left
  · rw [decide_eq_false h0] at HRD
    obtain rfl : B = false := HN1.out h0
    clear hn hn2 hn3 H H2 H3 hB h0 HN2 HN3 HRS HML
    go_enter Tryz.func14, Tryz.ntmps14
    go_wp2_with (go_at_call 34; refine HRD.out.mono ?_; rintro e w1 ⟨rfl, rfl⟩)
    go_ret
    exact ⟨rfl, Below.refl _ _⟩
  rw [decide_eq_true h0] at HRD
  obtain ⟨hok, hyl, hmil⟩ := rd_ok h0
  have hpb : preB M z = (decide (n3 = n) && milB z) := by unfold preB; rw [hok, hn, hn3]; rfl
  by_cases hl : n3 = n
  rotate_left
  · obtain rfl : B = false := HN2.out (by rw [hpb, decide_eq_false hl]; rfl)
    have hlb : ((n3 : Int) != (n : Int)) = true := by simp; omega
    clear hn hn2 hn3 H H2 H3 hB h0 HN1 HN2 HN3 HRS HML hok hyl hmil hpb hl
    go_enter Tryz.func14, Tryz.ntmps14
    go_wp2_with (go_at_call 34; refine HRD.out.mono ?_; rintro e w1 ⟨rfl, rfl⟩)
    go_ret
    exact ⟨rfl, Below.refl _ _⟩
  subst hl
  have hlb : ((n3 : Int) != (n3 : Int)) = false := by simp
  rw [decide_eq_true rfl, Bool.true_and] at hpb
  cases hz : milB z
  · rw [hz] at HML hpb
    obtain rfl : B = false := HN2.out hpb
    clear hn hn2 hn3 H H2 H3 hB h0 HN1 HN2 HN3 HRS hok hyl hmil hpb hz
    go_enter Tryz.func14, Tryz.ntmps14
    go_wp2_with (go_at_call 34; refine HRD.out.mono ?_; rintro e w1 ⟨rfl, rfl⟩; refine Stop.of ?_)
    refine Stop.go ?_
    go_wp2_with (go_at_call 35; refine HML.out.mono ?_; rintro e w1 ⟨rfl, rfl⟩)
    go_ret
    exact ⟨rfl, Below.refl _ _⟩
  · rw [hz] at HML hpb
    obtain ⟨_, _, h6, _, h10⟩ := okM_ok hok
    have HB := hid (r2Back_c w a a3 n3 cap cap3 M z hn hn3 H H3 hok hz)
    have HNT := hid (fun (X : World) (ba : Option Addr) (bc : Nat) (hI : IntsAt X ba (backF M (colsM M) z)) => nothing_c X ba (colsM M) bc (backF M (colsM M) z) (backF_len M _ z) (by unfold maxLen; omega) hI)
    have HDT := hid (fun (X : World) (hX : Below w.heap.size w X) => r2dot_c X a3 a2 n3 cap3 n2 cap2 z y hn3 hn2 (by omega) (by omega) (H3.below hX) (H2.below hX) (mil_bnd hz) (mil_bnd hmil))
    have HRS2 := hid (HRS.out h0 hpb)
    have HBL := hid (backF_len M (colsM M) z)
    obtain ⟨Bk, hBk⟩ : ∃ B, B = backF M (colsM M) z := ⟨_, rfl⟩
    rw [← hBk] at HN3 HRS2 HB HNT HBL
    obtain ⟨W, hW⟩ : ∃ W, W = colsM M := ⟨_, rfl⟩
    rw [← hW] at HB HNT HBL
    obtain ⟨nb, hnb⟩ : ∃ nb, nb = nilB Bk := ⟨_, rfl⟩
    rw [← hnb] at HNT HN3 HRS2
    obtain ⟨d, hd⟩ : ∃ d, d = dotV z y := ⟨_, rfl⟩
    rw [← hd] at HDT HRS2
    clear hn hn2 hn3 H H2 H3 hB h0 HN1 HN2 HRS hok hyl hmil hpb hz h6 h10 hBk hW hnb hd
    go_enter Tryz.func14, Tryz.ntmps14
    go_wp2_with (go_at_call 34; refine HRD.out.mono ?_; rintro e w1 ⟨rfl, rfl⟩; refine Stop.of ?_)
    refine Stop.go ?_
    go_wp2_with (go_at_call 35; refine HML.out.mono ?_; rintro e w1 ⟨rfl, rfl⟩; refine Stop.of ?_)
    refine Stop.go ?_
    go_wp2_with (go_at_call 36; refine HB.out.mono ?_; rintro e w2 ⟨v2, rfl, ho2, hb2⟩; refine Stop.of ?_)
    refine Stop.go ?_
    obtain ⟨ba, bc, rfl, hbi, _⟩ := ints_of_own ho2 HBL.out
    have HB2 := hid hb2
    have HNT2 := hid (HNT.out _ ba bc hbi)
    clear ho2 hbi hb2 HB HNT
    go_wp2_with (go_at_call 37; refine HNT2.out.mono ?_; rintro e w3 ⟨rfl, rfl⟩; refine Stop.of ?_)
    refine Stop.go ?_
    cases nb
    · obtain rfl : B = false := HN3.out rfl
      go_wp2
      go_ret
      exact ⟨rfl, HB2.out⟩
    · have HD2 := hid (HDT.out _ HB2.out)
      have HRS3 := hid (HRS2.out rfl)
      clear HDT HRS2
      go_wp2_with (go_at_call 38; refine HD2.out.mono ?_; rintro e w4 ⟨rfl, k4, rfl⟩; refine Stop.of ?_)
      refine Stop.go ?_
      go_wp2
      go_ret
      exact ⟨ret_bool (by rw [HRS3.out, ne_b]), below_drewN HB2.out k4⟩

def possV (M : Mask) (y : List Int) : Bool × Int := if rdE M y = 0 then ((conflictF M y).isNone, 0) else (false, rdE M y)

set_option maxHeartbeats 1000000 in
theorem lpossible_c (w : World) (a a2 : Option Addr) (n cap n2 cap2 : Nat) (M : Mask) (y : List Int) (hn : M.length = n) (hn2 : y.length = n2) (hm : n ≤ maxLen) (hm2 : n2 ≤ maxLen) (H : RowsAt w a M) (H2 : IntsAt w a2 y) :
    Calls Tryz.prog 7 #[.slice a n cap, .slice a2 n2 cap2] w fun e w' => e = .returned (.tuple #[.bool (possV M y).1, .int .i64 (possV M y).2]) ∧ Below w.heap.size w w' := by
  have HC := hid (check_c w a a2 none n cap n2 cap2 0 0 M y [] hn hn2 rfl hm hm2 (by decide) H H2 (fun j hj => by simp at hj))
  rw [← rd_check] at HC
  by_cases h0 : rdE M y = 0
  · obtain ⟨hok, hyl, hmil⟩ := rd_ok h0
    have hpv : possV M y = ((conflictF M y).isNone, 0) := by unfold possV; rw [if_pos h0]
    rw [hpv]
    rw [h0] at HC
    obtain rfl : n = n2 := by omega
    have HCF := hid (fun (X : World) (hX : Below w.heap.size w X) => conflict_c X a a2 n cap cap2 M y hn hn2 (H.below hX) (H2.below hX) hok hmil)
    have heq := fun (w : World) (a : Option Addr) (n c : Nat) => Lib.run_eql_slice_nil (P := Tryz.prog) w 24 3 a n c 0 0 Tryz.underlying24
    obtain ⟨B, hB⟩ : ∃ B, B = (conflictF M y).isNone := ⟨_, rfl⟩
    rw [← hB]
    have HBB := hid hB
    simp only []
    clear hn hn2 H H2 hok hyl hmil hpv h0 hB
    go_enter Tryz.func7, Tryz.ntmps7
    go_wp2_with (go_at_call 20; refine HC.out.mono ?_; rintro e w1 ⟨rfl, hb1⟩; refine Stop.of ?_)
    refine Stop.go ?_
    have HB1 := hid hb1
    clear hb1
    go_wp2_with (go_at_call 21; refine (HCF.out _ HB1.out).mono ?_; rintro e w3 ⟨hb3, hpost⟩; rcases hpost with ⟨hcn, rfl⟩ | ⟨u, ua, uc, hcs, rfl, hui⟩; all_goals refine Stop.of ?_)
    · refine Stop.go ?_
      obtain rfl : B = true := by rw [HBB.out, hcn]; rfl
      go_wp2
      go_ret2
      exact ⟨rfl, chain HB1.out hb3⟩
    · refine Stop.go ?_
      obtain rfl : B = false := by rw [HBB.out, hcs]; rfl
      go_wp2
      go_ret2
      exact ⟨rfl, chain HB1.out hb3⟩
  · have hpv : possV M y = (false, rdE M y) := by unfold possV; rw [if_neg h0]
    rw [hpv]
    obtain ⟨E, hE⟩ : ∃ E, E = rdE M y := ⟨_, rfl⟩
    rw [← hE] at HC h0 ⊢
    have hpb : (E != 0) = true := by simpa using h0
    clear hn hn2 H H2 hE hpv
    go_enter Tryz.func7, Tryz.ntmps7
    go_wp2_with (go_at_call 20; refine HC.out.mono ?_; rintro e w1 ⟨rfl, hb1⟩)
    go_ret2
    exact ⟨rfl, hb1⟩
end

section
set_option linter.unusedVariables false

def denP (x : List Rt) : Nat → Int
  | 0 => 1
  | k + 1 => denP x k * (ratAt x k).2
theorem denP_ne {x : List Rt} (h : ∀ k, (ratAt x k).2 ≠ 0) : ∀ k, denP x k ≠ 0
  | 0 => by show (1 : Int) ≠ 0; decide
  | k + 1 => Int.mul_ne_zero (denP_ne h k) (h k)
theorem denP_dvd (x : List Rt) : ∀ (k i : Nat), i < k → (ratAt x i).2 ∣ denP x k
  | 0, i, h => by omega
  | k + 1, i, h => by
    by_cases e : i = k
    · subst e; exact ⟨denP x i, Int.mul_comm _ _⟩
    · obtain ⟨c, hc⟩ := denP_dvd x k i (by omega)
      exact ⟨c * (ratAt x k).2, by rw [denP, hc]; grind⟩
def numP (x : List Rt) (W i : Nat) : Int := (ratAt x i).1 * (denP x W / (ratAt x i).2)
theorem numP_eq {x : List Rt} {W i : Nat} (hi : i < W) : numP x W i * (ratAt x i).2 = (ratAt x i).1 * denP x W := by
  have h2 := Int.ediv_mul_cancel (denP_dvd x W i hi)
  unfold numP
  rw [Int.mul_assoc, h2]

theorem sumR_val {r : List Int} {x : List Rt} {W : Nat} : ∀ k, k ≤ W → (sumR r x k).1 * denP x W = (sumR r x k).2 * sm (fun j => vec r j * numP x W j) k
  | 0, _ => by simp [sumR, sm]
  | k + 1, h => by
    have ih := sumR_val (r := r) (x := x) (W := W) k (by omega)
    have hn := numP_eq (x := x) (W := W) (i := k) (by omega)
    have hs : sm (fun j => vec r j * numP x W j) (k + 1) = sm (fun j => vec r j * numP x W j) k + vec r k * numP x W k := rfl
    rw [hs, sumR]
    by_cases h0 : vec r k ≠ 0
    · rw [if_pos h0]
      simp only []
      generalize sumR r x k = s at ih
      generalize sm (fun j => vec r j * numP x W j) k = S at ih
      generalize numP x W k = c at hn
      generalize denP x W = P at ih hn
      generalize ratAt x k = q at hn
      generalize vec r k = m
      grind
    · rw [if_neg h0]
      have h1 : vec r k = 0 := by omega
      rw [h1, ih]; simp

end
end Go.Proofs.YtfipebkhomppmaaGreat

namespace Go.Proofs.YtfipebkhomppmaaGreat
set_option linter.unusedVariables false

def sumA {α : Type} (v : α → Int) : List α → Nat
  | [] => 0
  | r :: rs => (v r).natAbs + sumA v rs
def pairA {α : Type} (c d : α → Int) : List α → Nat
  | [] => 0
  | r :: rs => sumA (fun s => c r * d s - d r * c s) rs + pairA c d rs

theorem ex_abs {α : Type} (v : α → Int) : ∀ (l : List α) (F : Nat) (f : List α → Int), (∀ m : List α, m.length + 1 = l.length → (f m).natAbs ≤ F) → (ex v f l).natAbs ≤ F * sumA v l
  | [], F, f, _ => by simp [ex]
  | r :: rs, F, f, hf => by
    have h1 := ex_abs v rs F (fun l => f (r :: l)) (fun m hm => hf _ (by simp; omega))
    have h2 := hf rs (by simp)
    have h3 : (v r * f rs).natAbs ≤ F * (v r).natAbs := by rw [Int.natAbs_mul, Nat.mul_comm]; exact Nat.mul_le_mul_right _ h2
    unfold ex sumA
    rw [Nat.mul_add]
    omega
theorem ex_lin {α : Type} (c d : α → Int) (x y : Int) : ∀ (l : List α) (f : List α → Int), ex (fun s => x * d s - y * c s) f l = x * ex d f l - y * ex c f l
  | [], f => by simp [ex]
  | r :: rs, f => by
    unfold ex
    rw [ex_lin c d x y rs (fun l => f (r :: l))]
    grind
theorem ex2_abs {α : Type} (c d : α → Int) : ∀ (l : List α) (F : Nat) (f : List α → Int), (∀ m : List α, m.length + 2 = l.length → (f m).natAbs ≤ F) → (ex c (ex d f) l).natAbs ≤ F * pairA c d l
  | [], F, f, _ => by simp [ex]
  | r :: rs, F, f, hf => by
    have h1 := ex2_abs c d rs F (fun k => f (r :: k)) (fun m hm => hf _ (by simp; omega))
    have e1 : ex c (fun l => ex d f (r :: l)) rs = d r * ex c f rs - ex c (ex d (fun m => f (r :: m))) rs := by
      have : (fun l => ex d f (r :: l)) = fun l => d r * f l - ex d (fun m => f (r :: m)) l := by funext l; rfl
      rw [this, ex_sub c rs (fun l => d r * f l) (fun l => ex d (fun m => f (r :: m)) l), ex_mul]
    have e2 : ex c (ex d f) (r :: rs) = ex (fun s => c r * d s - d r * c s) f rs + ex c (ex d (fun m => f (r :: m))) rs := by
      rw [ex_lin]
      show c r * ex d f rs - ex c (fun l => ex d f (r :: l)) rs = _
      rw [e1]; omega
    have h2 := ex_abs (fun s => c r * d s - d r * c s) rs F f (fun m hm => hf m (by simp; omega))
    rw [e2]
    unfold pairA
    rw [Nat.mul_add]
    omega

structure Cnt where
  a : Nat
  b : Nat
  c : Nat
  d : Nat
def cnt {α : Type} (c d : α → Int) : List α → Cnt
  | [] => ⟨0, 0, 0, 0⟩
  | r :: rs =>
    let k := cnt c d rs
    if c r = 0 then (if d r = 0 then k else { k with d := k.d + 1 }) else if d r = 0 then { k with c := k.c + 1 } else if c r = d r then { k with a := k.a + 1 } else { k with b := k.b + 1 }
theorem cnt_cons {α : Type} (c d : α → Int) (r : α) (rs : List α) : cnt c d (r :: rs) = if c r = 0 then (if d r = 0 then cnt c d rs else { cnt c d rs with d := (cnt c d rs).d + 1 }) else if d r = 0 then { cnt c d rs with c := (cnt c d rs).c + 1 } else if c r = d r then { cnt c d rs with a := (cnt c d rs).a + 1 } else { cnt c d rs with b := (cnt c d rs).b + 1 } := rfl
theorem one3 {x : Int} (h : -1 ≤ x ∧ x ≤ 1) : x = -1 ∨ x = 0 ∨ x = 1 := by omega
theorem cnt_le {α : Type} (c d : α → Int) : ∀ l : List α, (cnt c d l).a + (cnt c d l).b + (cnt c d l).c + (cnt c d l).d ≤ l.length
  | [] => by simp [cnt]
  | r :: rs => by
    have := cnt_le c d rs
    rw [cnt_cons]
    simp only [List.length_cons]
    generalize cnt c d rs = k at this ⊢
    obtain ⟨A, B, C, D⟩ := k
    split <;> (try split) <;> (try split) <;> (try simp only []) <;> (try simp only [] at this) <;> omega
theorem sum_cnt {α : Type} {c d : α → Int} (hc : ∀ r, -1 ≤ c r ∧ c r ≤ 1) (hd : ∀ r, -1 ≤ d r ∧ d r ≤ 1) (x y : Int) (hx : -1 ≤ x ∧ x ≤ 1) (hy : -1 ≤ y ∧ y ≤ 1) : ∀ l : List α,
    sumA (fun s => x * d s - y * c s) l = if x = 0 then (if y = 0 then 0 else (cnt c d l).a + (cnt c d l).b + (cnt c d l).c) else if y = 0 then (cnt c d l).a + (cnt c d l).b + (cnt c d l).d else if x = y then 2 * (cnt c d l).b + (cnt c d l).c + (cnt c d l).d else 2 * (cnt c d l).a + (cnt c d l).c + (cnt c d l).d
  | [] => by simp [sumA, cnt]
  | r :: rs => by
    have ih := sum_cnt hc hd x y hx hy rs
    unfold sumA
    rw [ih, cnt_cons]
    have h1 := one3 (hc r)
    have h2 := one3 (hd r)
    generalize c r = p at h1 ⊢
    generalize d r = q at h2 ⊢
    generalize cnt c d rs = k
    rcases one3 hx with rfl | rfl | rfl <;> rcases one3 hy with rfl | rfl | rfl <;> rcases h1 with rfl | rfl | rfl <;> rcases h2 with rfl | rfl | rfl <;> simp <;> omega
theorem pair_cnt {α : Type} {c d : α → Int} (hc : ∀ r, -1 ≤ c r ∧ c r ≤ 1) (hd : ∀ r, -1 ≤ d r ∧ d r ≤ 1) : ∀ l : List α,
    pairA c d l = 2 * ((cnt c d l).a * (cnt c d l).b) + (cnt c d l).c * (cnt c d l).d + ((cnt c d l).c + (cnt c d l).d) * ((cnt c d l).a + (cnt c d l).b)
  | [] => by simp [pairA, cnt]
  | r :: rs => by
    have ih := pair_cnt hc hd rs
    have hs := sum_cnt hc hd (c r) (d r) (hc r) (hd r) rs
    unfold pairA
    rw [hs, ih, cnt_cons]
    have h1 := one3 (hc r)
    have h2 := one3 (hd r)
    generalize c r = p at h1 ⊢
    generalize d r = q at h2 ⊢
    generalize cnt c d rs = k
    obtain ⟨A, B, C, D⟩ := k
    rcases h1 with rfl | rfl | rfl <;> rcases h2 with rfl | rfl | rfl <;> simp <;> grind
theorem pair_le {α : Type} {c d : α → Int} (hc : ∀ r, -1 ≤ c r ∧ c r ≤ 1) (hd : ∀ r, -1 ≤ d r ∧ d r ≤ 1) (l : List α) : 2 * pairA c d l ≤ l.length * l.length := by
  rw [pair_cnt hc hd l]
  have h := cnt_le c d l
  generalize cnt c d l = k at h ⊢
  obtain ⟨A, B, C, D⟩ := k
  simp only [] at h ⊢
  refine Nat.le_trans ?_ (Nat.mul_le_mul h h)
  have hab : 2 * (A * B) ≤ A * A + B * B := by
    rcases Nat.le_total A B with e | e
    · obtain ⟨t, rfl⟩ := Nat.exists_eq_add_of_le e
      have := Nat.zero_le (t * t)
      grind
    · obtain ⟨t, rfl⟩ := Nat.exists_eq_add_of_le e
      have := Nat.zero_le (t * t)
      grind
  have h1 := Nat.zero_le (C * C)
  have h2 := Nat.zero_le (D * D)
  have e : (A + B + C + D) * (A + B + C + D) = A * A + B * B + 2 * (A * B) + (C * C + D * D + 2 * (C * D)) + 2 * ((C + D) * (A + B)) := by grind
  rw [e]
  omega

theorem det_288 {α : Type} (cs : List (α → Int)) (hc : ∀ c ∈ cs, ∀ r, -1 ≤ c r ∧ c r ≤ 1) (l : List α) (hl : l.length = cs.length) (h6 : cs.length ≤ 6) : (det cs l).natAbs ≤ 288 := by
  have two : ∀ (c d : α → Int) (ds : List (α → Int)) (F : Nat) (m : List α), (∀ r, -1 ≤ c r ∧ c r ≤ 1) → (∀ r, -1 ≤ d r ∧ d r ≤ 1) → (∀ k : List α, k.length + 2 = m.length → (det ds k).natAbs ≤ F) → (det (c :: d :: ds) m).natAbs ≤ F * (m.length * m.length / 2) := by
    intro c d ds F m h1 h2 h3
    refine Nat.le_trans (ex2_abs c d m F (det ds) h3) (Nat.mul_le_mul_left _ ?_)
    have := pair_le h1 h2 m
    omega
  have d0 : ∀ m : List α, (det ([] : List (α → Int)) m).natAbs ≤ 1 := fun m => by simp [det]
  have d1 : ∀ (c : α → Int) (m : List α), (∀ r, -1 ≤ c r ∧ c r ≤ 1) → m.length = 1 → (det [c] m).natAbs ≤ 1 := by
    intro c m h hm
    match m, hm with
    | [r], _ => have := h r; simp [det, ex]; omega
  match cs, hc, hl, h6 with
  | [], _, _, _ => have := d0 l; omega
  | [c], hc, hl, _ => have := d1 c l (hc c (by simp)) (by simpa using hl); omega
  | [c, d], hc, hl, _ =>
    have := two c d [] 1 l (hc c (by simp)) (hc d (by simp)) (fun k _ => d0 k)
    rw [hl] at this; simp at this; omega
  | [c, d, e], hc, hl, _ =>
    have := two c d [e] 1 l (hc c (by simp)) (hc d (by simp)) (fun k hk => d1 e k (hc e (by simp)) (by simp at hl; omega))
    rw [hl] at this; simp at this; omega
  | [c, d, e, f], hc, hl, _ =>
    have := two c d [e, f] 2 l (hc c (by simp)) (hc d (by simp)) (fun k hk => by
      have := two e f [] 1 k (hc e (by simp)) (hc f (by simp)) (fun k _ => d0 k)
      rw [show k.length = 2 by simp at hl; omega] at this; simpa using this)
    rw [hl] at this; simp at this; omega
  | [c, d, e, f, g], hc, hl, _ =>
    have := two c d [e, f, g] 4 l (hc c (by simp)) (hc d (by simp)) (fun k hk => by
      have hk3 : k.length = 3 := by simp at hl; omega
      have := two e f [g] 1 k (hc e (by simp)) (hc f (by simp)) (fun j hj => d1 g j (hc g (by simp)) (by omega))
      rw [hk3] at this; simpa using this)
    rw [hl] at this; simp at this; omega
  | [c, d, e, f, g, h], hc, hl, _ =>
    have := two c d [e, f, g, h] 16 l (hc c (by simp)) (hc d (by simp)) (fun k hk => by
      have hk4 : k.length = 4 := by simp at hl; omega
      have := two e f [g, h] 2 k (hc e (by simp)) (hc f (by simp)) (fun j hj => by
        have := two g h [] 1 j (hc g (by simp)) (hc h (by simp)) (fun k _ => d0 k)
        rw [show j.length = 2 by omega] at this; simpa using this)
      rw [hk4] at this; simpa using this)
    rw [hl] at this; simp at this; omega
  | _ :: _ :: _ :: _ :: _ :: _ :: _ :: _, _, _, h6 => simp at h6
end Go.Proofs.YtfipebkhomppmaaGreat

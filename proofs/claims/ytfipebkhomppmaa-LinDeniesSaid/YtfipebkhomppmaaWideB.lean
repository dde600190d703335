/- Walks: numbers of 128 bits (package frac): size, Mul64, Sub64, Opposite, Product, Compare. · Walks: Compare of fractions (package frac, package lin), down (reference 03). -/
import Derived.Test.YtfipebkhomppmaaLwK
import Derived.Test.YtfipebkhomppmaaLift
import Derived.Shelf.Bits.Mul64
import Derived.Shelf.Spec.BitsCarry
namespace Go.Proofs.Ytfipebkhomppmaa
section
open Go.RowKit Go.Lib
set_option linter.unusedVariables false

/-- a number of 128 bits -/
def wideV (V : Int) : Value := .agg #[.int .i64 (V / 18446744073709551616), .int .u64 (V % 18446744073709551616)]
def cmpI (V U : Int) : Int := if V < U then -1 else if V = U then 0 else 1

theorem size_c (w : World) (n : Int) (h : -9223372036854775808 ≤ n ∧ n ≤ 9223372036854775807) : Calls Try.prog 156 #[.int .i64 n] w fun e w' => e = .returned (.int .u64 (n.natAbs : Nat)) ∧ w = w' := by
  obtain ⟨m, hm⟩ : ∃ m : Int, m = (n.natAbs : Nat) := ⟨_, rfl⟩
  rw [← hm]
  by_cases h0 : n < 0
  · have h1 : IntKind.u64.wrap n = 18446744073709551616 + n := by rw [IntKind.wrap_u64]; omega
    have h2 : IntKind.u64.wrap (-(18446744073709551616 + n)) = m := by rw [IntKind.wrap_u64]; omega
    clear hm
    go_enter Try.func156, Try.ntmps156
    go_wp2
    go_ret
    exact ⟨rfl, rfl⟩
  · have h1 : IntKind.u64.wrap n = m := by rw [IntKind.wrap_u64]; omega
    clear hm
    go_enter Try.func156, Try.ntmps156
    go_wp2
    go_ret
    exact ⟨rfl, rfl⟩

set_option maxHeartbeats 1000000 in
theorem mul64_c (x y : Nat) (hx : x < 18446744073709551616) (hy : y < 18446744073709551616) (w : World) :
    Calls Try.prog 155 #[.int .u64 x, .int .u64 y] w fun e w' => e = .returned (.tuple #[.int .u64 ((x * y / 18446744073709551616 : Nat) : Int), .int .u64 ((x * y % 18446744073709551616 : Nat) : Int)]) ∧ w = w' := by
  obtain ⟨bd, bt, bw, hhi⟩ := mul64_hi x y hx hy
  have ba := half_mul_le (a := x / 4294967296) (b := y / 4294967296) (by omega) (by omega)
  have bb := half_mul_le (a := x / 4294967296) (b := y % 4294967296) (by omega) (by omega)
  have bc := half_mul_le (a := x % 4294967296) (b := y / 4294967296) (by omega) (by omega)
  have ba' : x / 4294967296 * (y / 4294967296) < 18446744073709551616 := by omega
  have bb' : x / 4294967296 * (y % 4294967296) < 18446744073709551616 := by omega
  have bc' : x % 4294967296 * (y / 4294967296) < 18446744073709551616 := by omega
  have bh1 : x / 4294967296 * (y / 4294967296) + (x / 4294967296 * (y % 4294967296) + x % 4294967296 * (y % 4294967296) / 4294967296) / 4294967296 < 18446744073709551616 := by omega
  have bh : x / 4294967296 * (y / 4294967296) + (x / 4294967296 * (y % 4294967296) + x % 4294967296 * (y % 4294967296) / 4294967296) / 4294967296 + ((x / 4294967296 * (y % 4294967296) + x % 4294967296 * (y % 4294967296) / 4294967296) % 4294967296 + x % 4294967296 * (y / 4294967296)) / 4294967296 < 18446744073709551616 := by omega
  go_enter Try.func155, Try.ntmps155
  go_wp2
  simp only [Mul64.maskN x hx, Mul64.maskN y hy, Mul64.divN, Mul64.mulN, Mul64.addN, Mul64.wrapN _ bd, Mul64.wrapN _ bb', Mul64.wrapN _ bt, Mul64.maskN _ bt, Mul64.wrapN _ bc', Mul64.wrapN _ bw, Mul64.wrapN _ ba', Mul64.wrapN _ bh1, Mul64.wrapN _ bh, Mul64.wrapM (x * y)]
  rw [hhi]
  go_ret2
  exact ⟨rfl, rfl⟩

theorem sub64 (x y b : Int) (hx : 0 ≤ x) (hy : 0 ≤ y) (hy' : y < 18446744073709551616) (hb0 : 0 ≤ b) (hb : b ≤ 1) (w : World) : (callFunc 170 #[.int .u64 x, .int .u64 y, .int .u64 b]).run Try.prog w =
    .ok (.value (.tuple #[.int .u64 ((x - y - b) % 18446744073709551616), .int .u64 (if x < y + b then 1 else 0)])) w := by
  obtain ⟨x, rfl⟩ := Int.eq_ofNat_of_zero_le hx
  obtain ⟨y, rfl⟩ := Int.eq_ofNat_of_zero_le hy
  obtain ⟨b, rfl⟩ := Int.eq_ofNat_of_zero_le hb0
  have e1 : (((x + 18446744073709551616 - y - b) % 18446744073709551616 : Nat) : Int) = ((x : Int) - y - b) % 18446744073709551616 := by omega
  have e2 : ((if x < y + b then 1 else 0 : Nat) : Int) = if (x : Int) < y + b then 1 else 0 := by split <;> split <;> omega
  rw [← e1, ← e2]
  rw [run_callFunc_extern Try.func170 (by kernel_rfl) (by kernel_rfl) (by kernel_rfl) (e := sub64Entry) (by kernel_rfl), run_sub64 x y b (by omega)]
  rfl
theorem sub64_0 (x y : Int) (hx : 0 ≤ x) (hy : 0 ≤ y) (hy' : y < 18446744073709551616) (w : World) : (callFunc 170 #[.int .u64 x, .int .u64 y, .int .u64 0]).run Try.prog w =
    .ok (.value (.tuple #[.int .u64 ((x - y) % 18446744073709551616), .int .u64 (if x < y then 1 else 0)])) w := by
  simpa using sub64 x y 0 hx hy hy' (Int.le_refl 0) (by decide) w

/-- Opposite, of a number from 0 on -/
theorem opp_c (w : World) (h l : Int) (h0 : 0 ≤ h) (h1 : h ≤ 4611686018427387904) (l0 : 0 ≤ l) (l1 : l < 18446744073709551616) :
    Calls Try.prog 157 #[.agg #[.int .i64 h, .int .u64 l]] w fun e w' => e = .returned (wideV (-(h * 18446744073709551616 + l))) ∧ Below w.heap.size w w' := by
  obtain ⟨b, hb⟩ : ∃ b : Int, b = if (0 : Int) < l then 1 else 0 := ⟨_, rfl⟩
  have b0 : 0 ≤ b := by rw [hb]; split <;> decide
  have b1 : b ≤ 1 := by rw [hb]; split <;> decide
  have hL : (0 - l) % 18446744073709551616 = (-(h * 18446744073709551616 + l)) % 18446744073709551616 := by omega
  have hH : IntKind.i64.wrap ((0 - h - b) % 18446744073709551616) = (-(h * 18446744073709551616 + l)) / 18446744073709551616 := by
    rw [IntKind.wrap_i64]
    rcases Int.lt_or_le 0 l with hl | hl
    · rw [if_pos hl] at hb; subst hb; omega
    · rw [if_neg (by omega)] at hb; subst hb; omega
  have hu : IntKind.u64.wrap h = h := by rw [IntKind.wrap_u64]; omega
  have s1 : ∀ w, (callFunc 170 #[.int .u64 0, .int .u64 l, .int .u64 0]).run Try.prog w = .ok (.value (.tuple #[.int .u64 ((-(h * 18446744073709551616 + l)) % 18446744073709551616), .int .u64 b])) w := fun w => by
    rw [sub64_0 0 l (by decide) l0 l1, ← hb, hL]
  have s2 : ∀ w, (callFunc 170 #[.int .u64 0, .int .u64 h, .int .u64 b]).run Try.prog w = .ok (.value (.tuple #[.int .u64 ((0 - h - b) % 18446744073709551616), .int .u64 (if 0 < h + b then 1 else 0)])) w := fun w => sub64 0 h b (by decide) h0 (by omega) b0 b1 w
  obtain ⟨bo, hbo⟩ : ∃ bo : Int, bo = if 0 < h + b then 1 else 0 := ⟨_, rfl⟩
  rw [← hbo] at s2
  unfold wideV
  obtain ⟨R1, hR1⟩ : ∃ R, R = (-(h * 18446744073709551616 + l)) / 18446744073709551616 := ⟨_, rfl⟩
  obtain ⟨R2, hR2⟩ : ∃ R, R = (-(h * 18446744073709551616 + l)) % 18446744073709551616 := ⟨_, rfl⟩
  obtain ⟨R3, hR3⟩ : ∃ R, R = (0 - h - b) % 18446744073709551616 := ⟨_, rfl⟩
  rw [← hR2] at s1
  rw [← hR3] at s2 hH
  rw [← hR1] at hH
  rw [← hR1, ← hR2]
  clear hL hb hbo hR1 hR2 hR3 b0 b1
  go_enter Try.func157, Try.ntmps157
  go_wp2_with (first | simp only [s1] | simp only [s2])
  simp [bodyPost, results, Try.results157, go_sem]
  exact ((Below.refl _ _).alloc (Nat.le_refl _) _).alloc (by simp) _

theorem cmp_lex {V U : Int} : (V / 18446744073709551616 < U / 18446744073709551616 → V < U) ∧ (U / 18446744073709551616 < V / 18446744073709551616 → U < V) ∧
    (V / 18446744073709551616 = U / 18446744073709551616 → V % 18446744073709551616 < U % 18446744073709551616 → V < U) ∧ (V / 18446744073709551616 = U / 18446744073709551616 → U % 18446744073709551616 < V % 18446744073709551616 → U < V) ∧
    (V / 18446744073709551616 = U / 18446744073709551616 → V % 18446744073709551616 = U % 18446744073709551616 → V = U) := by omega

theorem wcompare_c (w : World) (V U : Int) : Calls Try.prog 135 #[wideV V, wideV U] w fun e w' => e = .returned (.int .i64 (cmpI V U)) ∧ Below w.heap.size w w' := by
  obtain ⟨k1, k2, k3, k4, k5⟩ := cmp_lex (V := V) (U := U)
  unfold wideV
  obtain ⟨h, hh⟩ : ∃ h, h = V / 18446744073709551616 := ⟨_, rfl⟩
  obtain ⟨l, hl⟩ : ∃ h, h = V % 18446744073709551616 := ⟨_, rfl⟩
  obtain ⟨h', hh'⟩ : ∃ h, h = U / 18446744073709551616 := ⟨_, rfl⟩
  obtain ⟨l', hl'⟩ : ∃ h, h = U % 18446744073709551616 := ⟨_, rfl⟩
  rw [← hh, ← hl, ← hh', ← hl']
  rw [← hh, ← hh'] at k1 k2 k3 k4 k5
  rw [← hl, ← hl'] at k3 k4 k5
  clear hh hl hh' hl'
  obtain ⟨C, hC⟩ : ∃ C, C = cmpI V U := ⟨_, rfl⟩
  rw [← hC]
  have HBL := hid (show Below w.heap.size w ((w.alloc (.cells #[.int .i64 h, .int .u64 l] 103)).alloc (.cells #[.int .i64 h', .int .u64 l'] 103)) from ((Below.refl _ _).alloc (Nat.le_refl _) _).alloc (by simp) _)
  rcases Int.lt_trichotomy h h' with c1 | c1 | c1
  · have hv := k1 c1
    obtain rfl : C = -1 := by rw [hC]; unfold cmpI; rw [if_pos hv]
    have hne : (h == h') = false := by simp; omega
    have hne2 : ¬ h = h' := by omega
    clear hC k1 k2 k3 k4 k5
    go_enter Try.func135, Try.ntmps135
    go_wp2
    go_ret
    exact ⟨rfl, HBL.out⟩
  · subst c1
    rcases Int.lt_trichotomy l l' with c2 | c2 | c2
    · have hv := k3 rfl c2
      obtain rfl : C = -1 := by rw [hC]; unfold cmpI; rw [if_pos hv]
      have hne : (l == l') = false := by simp; omega
      have hne2 : ¬ l = l' := by omega
      clear hC k1 k2 k3 k4 k5
      go_enter Try.func135, Try.ntmps135
      go_wp2
      go_ret
      exact ⟨rfl, HBL.out⟩
    · subst c2
      have hv := k5 rfl rfl
      obtain rfl : C = 0 := by rw [hC]; unfold cmpI; rw [if_neg (by omega), if_pos hv]
      clear hC k1 k2 k3 k4 k5
      go_enter Try.func135, Try.ntmps135
      go_wp2
      go_ret
      exact ⟨rfl, HBL.out⟩
    · have hv := k4 rfl c2
      obtain rfl : C = 1 := by rw [hC]; unfold cmpI; rw [if_neg (by omega), if_neg (by omega)]
      have hne : (l == l') = false := by simp; omega
      have hne2 : ¬ l = l' := by omega
      have hnl : ¬ l < l' := by omega
      clear hC k1 k2 k3 k4 k5
      go_enter Try.func135, Try.ntmps135
      go_wp2
      go_ret
      exact ⟨rfl, HBL.out⟩
  · have hv := k2 c1
    obtain rfl : C = 1 := by rw [hC]; unfold cmpI; rw [if_neg (by omega), if_neg (by omega)]
    have hne : (h == h') = false := by simp; omega
    have hne2 : ¬ h = h' := by omega
    have hnl : ¬ h < h' := by omega
    clear hC k1 k2 k3 k4 k5
    go_enter Try.func135, Try.ntmps135
    go_wp2
    go_ret
    exact ⟨rfl, HBL.out⟩

theorem prod_sign (a b : Int) : ((decide (a < 0) != decide (b < 0)) = true → a * b = -(((a.natAbs * b.natAbs : Nat) : Int))) ∧ ((decide (a < 0) != decide (b < 0)) = false → a * b = ((a.natAbs * b.natAbs : Nat) : Int)) := by
  rw [Int.natCast_mul]
  rcases Int.lt_or_le a 0 with h1 | h1 <;> rcases Int.lt_or_le b 0 with h2 | h2
  · have e1 : ((a.natAbs : Nat) : Int) = -a := by omega
    have e2 : ((b.natAbs : Nat) : Int) = -b := by omega
    rw [e1, e2]
    simp [h1, h2]
    try grind
  · have e1 : ((a.natAbs : Nat) : Int) = -a := by omega
    have e2 : ((b.natAbs : Nat) : Int) = b := by omega
    rw [e1, e2]
    simp [h1, Int.not_lt.2 h2]
    try grind
  · have e1 : ((a.natAbs : Nat) : Int) = a := by omega
    have e2 : ((b.natAbs : Nat) : Int) = -b := by omega
    rw [e1, e2]
    simp [Int.not_lt.2 h1, h2]
    try grind
  · have e1 : ((a.natAbs : Nat) : Int) = a := by omega
    have e2 : ((b.natAbs : Nat) : Int) = b := by omega
    rw [e1, e2]
    simp [Int.not_lt.2 h1, Int.not_lt.2 h2]

set_option maxRecDepth 100000 in
set_option maxHeartbeats 1000000 in
theorem product_c (w : World) (a b : Int) (ha : -9223372036854775808 ≤ a ∧ a ≤ 9223372036854775807) (hb : -9223372036854775808 ≤ b ∧ b ≤ 9223372036854775807) :
    Calls Try.prog 134 #[.int .i64 a, .int .i64 b] w fun e w' => e = .returned (wideV (a * b)) ∧ Below w.heap.size w w' := by
  obtain ⟨s1, s2⟩ := prod_sign a b
  have HS1 := hid (fun X => size_c X a ha)
  have HS2 := hid (fun X => size_c X b hb)
  obtain ⟨x, hx⟩ : ∃ x, x = a.natAbs := ⟨_, rfl⟩
  obtain ⟨y, hy⟩ : ∃ x, x = b.natAbs := ⟨_, rfl⟩
  rw [← hx, ← hy] at s1 s2
  rw [← hx] at HS1
  rw [← hy] at HS2
  have hx1 : x ≤ 9223372036854775808 := by omega
  have hy1 : y ≤ 9223372036854775808 := by omega
  have hp : x * y ≤ 9223372036854775808 * 9223372036854775808 := Nat.mul_le_mul hx1 hy1
  have HM := hid (fun X => mul64_c x y (by omega) (by omega) X)
  obtain ⟨P, hP⟩ : ∃ P, P = x * y := ⟨_, rfl⟩
  rw [← hP] at s1 s2 hp HM
  obtain ⟨H, hH⟩ : ∃ H : Int, H = ((P / 18446744073709551616 : Nat) : Int) := ⟨_, rfl⟩
  obtain ⟨Lo, hLo⟩ : ∃ H : Int, H = ((P % 18446744073709551616 : Nat) : Int) := ⟨_, rfl⟩
  rw [← hH, ← hLo] at HM
  have h0 : 0 ≤ H := by omega
  have h1 : H ≤ 4611686018427387904 := by omega
  have l0 : 0 ≤ Lo := by omega
  have l1 : Lo < 18446744073709551616 := by omega
  have hw : IntKind.i64.wrap H = H := IntWalk.i64_in _ (by omega)
  have heq : H * 18446744073709551616 + Lo = (P : Int) := by omega
  have HO := hid (fun X => opp_c X H Lo h0 h1 l0 l1)
  rw [heq] at HO
  have hwv : wideV (P : Int) = .agg #[.int .i64 H, .int .u64 Lo] := by
    unfold wideV
    rw [show (P : Int) / 18446744073709551616 = H by omega, show (P : Int) % 18446744073709551616 = Lo by omega]
  by_cases ha0 : a < 0 <;> by_cases hb0 : b < 0
  · skip
    have hd1 : decide (a < 0) = true := by simp [ha0]
    have hd2 : decide (b < 0) = true := by simp [hb0]
    have e := s2 (by simp [ha0, hb0])
    rw [e, hwv]
    clear s1 s2 hx hy hP hH hLo heq hwv e HO hp
    go_enter Try.func134, Try.ntmps134
    go_wp2_with (go_at_call 156; refine (HS1.out _).mono ?_; rintro e w1 ⟨rfl, rfl⟩; refine Stop.of ?_)
    refine Stop.go ?_
    go_wp2_with (go_at_call 156; refine (HS2.out _).mono ?_; rintro e w1 ⟨rfl, rfl⟩; refine Stop.of ?_)
    refine Stop.go ?_
    go_wp2_with (go_at_call 155; refine (HM.out _).mono ?_; rintro e w1 ⟨rfl, rfl⟩; refine Stop.of ?_)
    refine Stop.go ?_
    go_wp2
    simp [bodyPost, results, Try.results134, go_sem]
    exact ((Below.refl _ _).alloc (Nat.le_refl _) _).alloc (by simp) _
  · skip
    have hd1 : decide (a < 0) = true := by simp [ha0]
    have hd2 : decide (b < 0) = false := by simp [hb0]
    have e := s1 (by simp [ha0, hb0])
    rw [e]
    obtain ⟨R1, hR1⟩ : ∃ R, R = (-(P : Int)) / 18446744073709551616 := ⟨_, rfl⟩
    obtain ⟨R2, hR2⟩ : ∃ R, R = (-(P : Int)) % 18446744073709551616 := ⟨_, rfl⟩
    have hwn : wideV (-(P : Int)) = .agg #[.int .i64 R1, .int .u64 R2] := by unfold wideV; rw [hR1, hR2]
    rw [hwn] at HO ⊢
    clear s1 s2 hx hy hP hH hLo heq hwv e hp hR1 hR2 hwn
    go_enter Try.func134, Try.ntmps134
    go_wp2_with (go_at_call 156; refine (HS1.out _).mono ?_; rintro e w1 ⟨rfl, rfl⟩; refine Stop.of ?_)
    refine Stop.go ?_
    go_wp2_with (go_at_call 156; refine (HS2.out _).mono ?_; rintro e w1 ⟨rfl, rfl⟩; refine Stop.of ?_)
    refine Stop.go ?_
    go_wp2_with (go_at_call 155; refine (HM.out _).mono ?_; rintro e w1 ⟨rfl, rfl⟩; refine Stop.of ?_)
    refine Stop.go ?_
    go_wp2_with (go_at_call 157; refine (HO.out _).mono ?_; rintro e w2 ⟨rfl, hb2⟩; refine Stop.of ?_)
    refine Stop.go ?_
    have hba : Below w.heap.size w ((w.alloc (.cells #[.int .i64 0, .int .u64 0] 103)).alloc (.cells #[.int .i64 H, .int .u64 Lo] 103)) := ((Below.refl _ _).alloc (Nat.le_refl _) _).alloc (by simp) _
    have hbx := chain hba hb2
    have c0 : w2.cell? ⟨w.heap.size, 0, none⟩ = some (.int .i64 0) := ((bcell hb2).1 w.heap.size 0 (by simp; omega)).trans (by rw [World.cell?_alloc_past _ _ _ (by simp), World.cell?_alloc_at _ _ _ _ rfl]; rfl)
    have c1 : w2.cell? ⟨w.heap.size, 1, none⟩ = some (.int .u64 0) := ((bcell hb2).1 w.heap.size 1 (by simp; omega)).trans (by rw [World.cell?_alloc_past _ _ _ (by simp), World.cell?_alloc_at _ _ _ _ rfl]; rfl)
    have hlt2 : w.heap.size < w2.heap.size := by have := hb2.size; simp at this; omega
    have f0 : w2.frozen? ⟨w.heap.size, 0, none⟩ = false := ((bcell hb2).2 w.heap.size 0 (by simp; omega)).trans (by simp [go_sem])
    have f1 : w2.frozen? ⟨w.heap.size, 1, none⟩ = false := ((bcell hb2).2 w.heap.size 1 (by simp; omega)).trans (by simp [go_sem])
    go_wp2
    simp [bodyPost, results, Try.results134, go_sem, c0, c1, f0, f1, hlt2]
    exact below_set (below_set hbx (Nat.le_refl _) 0 _) (Nat.le_refl _) 1 _
  · skip
    have hd1 : decide (a < 0) = false := by simp [ha0]
    have hd2 : decide (b < 0) = true := by simp [hb0]
    have e := s1 (by simp [ha0, hb0])
    rw [e]
    obtain ⟨R1, hR1⟩ : ∃ R, R = (-(P : Int)) / 18446744073709551616 := ⟨_, rfl⟩
    obtain ⟨R2, hR2⟩ : ∃ R, R = (-(P : Int)) % 18446744073709551616 := ⟨_, rfl⟩
    have hwn : wideV (-(P : Int)) = .agg #[.int .i64 R1, .int .u64 R2] := by unfold wideV; rw [hR1, hR2]
    rw [hwn] at HO ⊢
    clear s1 s2 hx hy hP hH hLo heq hwv e hp hR1 hR2 hwn
    go_enter Try.func134, Try.ntmps134
    go_wp2_with (go_at_call 156; refine (HS1.out _).mono ?_; rintro e w1 ⟨rfl, rfl⟩; refine Stop.of ?_)
    refine Stop.go ?_
    go_wp2_with (go_at_call 156; refine (HS2.out _).mono ?_; rintro e w1 ⟨rfl, rfl⟩; refine Stop.of ?_)
    refine Stop.go ?_
    go_wp2_with (go_at_call 155; refine (HM.out _).mono ?_; rintro e w1 ⟨rfl, rfl⟩; refine Stop.of ?_)
    refine Stop.go ?_
    go_wp2_with (go_at_call 157; refine (HO.out _).mono ?_; rintro e w2 ⟨rfl, hb2⟩; refine Stop.of ?_)
    refine Stop.go ?_
    have hba : Below w.heap.size w ((w.alloc (.cells #[.int .i64 0, .int .u64 0] 103)).alloc (.cells #[.int .i64 H, .int .u64 Lo] 103)) := ((Below.refl _ _).alloc (Nat.le_refl _) _).alloc (by simp) _
    have hbx := chain hba hb2
    have c0 : w2.cell? ⟨w.heap.size, 0, none⟩ = some (.int .i64 0) := ((bcell hb2).1 w.heap.size 0 (by simp; omega)).trans (by rw [World.cell?_alloc_past _ _ _ (by simp), World.cell?_alloc_at _ _ _ _ rfl]; rfl)
    have c1 : w2.cell? ⟨w.heap.size, 1, none⟩ = some (.int .u64 0) := ((bcell hb2).1 w.heap.size 1 (by simp; omega)).trans (by rw [World.cell?_alloc_past _ _ _ (by simp), World.cell?_alloc_at _ _ _ _ rfl]; rfl)
    have hlt2 : w.heap.size < w2.heap.size := by have := hb2.size; simp at this; omega
    have f0 : w2.frozen? ⟨w.heap.size, 0, none⟩ = false := ((bcell hb2).2 w.heap.size 0 (by simp; omega)).trans (by simp [go_sem])
    have f1 : w2.frozen? ⟨w.heap.size, 1, none⟩ = false := ((bcell hb2).2 w.heap.size 1 (by simp; omega)).trans (by simp [go_sem])
    go_wp2
    simp [bodyPost, results, Try.results134, go_sem, c0, c1, f0, f1, hlt2]
    exact below_set (below_set hbx (Nat.le_refl _) 0 _) (Nat.le_refl _) 1 _
  · skip
    have hd1 : decide (a < 0) = false := by simp [ha0]
    have hd2 : decide (b < 0) = false := by simp [hb0]
    have e := s2 (by simp [ha0, hb0])
    rw [e, hwv]
    clear s1 s2 hx hy hP hH hLo heq hwv e HO hp
    go_enter Try.func134, Try.ntmps134
    go_wp2_with (go_at_call 156; refine (HS1.out _).mono ?_; rintro e w1 ⟨rfl, rfl⟩; refine Stop.of ?_)
    refine Stop.go ?_
    go_wp2_with (go_at_call 156; refine (HS2.out _).mono ?_; rintro e w1 ⟨rfl, rfl⟩; refine Stop.of ?_)
    refine Stop.go ?_
    go_wp2_with (go_at_call 155; refine (HM.out _).mono ?_; rintro e w1 ⟨rfl, rfl⟩; refine Stop.of ?_)
    refine Stop.go ?_
    go_wp2
    simp [bodyPost, results, Try.results134, go_sem]
    exact ((Below.refl _ _).alloc (Nat.le_refl _) _).alloc (by simp) _
end

section
open Go.RowKit
set_option linter.unusedVariables false

def dF (d : Int) : Int := if d < 1 then 1 else d
def cmpR (an ad bn bd : Int) : Int := cmpI (an * dF bd) (bn * dF ad)
def F64 (n : Int) : Prop := -9223372036854775808 ≤ n ∧ n ≤ 9223372036854775807

set_option maxRecDepth 100000 in
set_option maxHeartbeats 1000000 in
theorem fcompare_c (w : World) (an ad bn bd : Int) (h1 : F64 an) (h2 : F64 ad) (h3 : F64 bn) (h4 : F64 bd) :
    Calls Try.prog 85 #[.agg #[.int .i64 an, .int .i64 ad], .agg #[.int .i64 bn, .int .i64 bd]] w fun e w' => e = .returned (.int .i64 (cmpR an ad bn bd)) ∧ Below w.heap.size w w' := by
  obtain ⟨h1a, h1b⟩ := h1
  obtain ⟨h2a, h2b⟩ := h2
  obtain ⟨h3a, h3b⟩ := h3
  obtain ⟨h4a, h4b⟩ := h4
  unfold cmpR dF
  by_cases c1 : ad < 1 <;> by_cases c2 : bd < 1
  · rw [if_pos c1, if_pos c2]
    obtain ⟨C, hC⟩ : ∃ C, C = cmpI (an * 1) (bn * 1) := ⟨_, rfl⟩
    rw [← hC]
    have HCC := hid hC
    obtain ⟨wz, hwz⟩ : ∃ wz, wz = (w.alloc (.cells #[.int .i64 an, .int .i64 1] 46)).alloc (.cells #[.int .i64 bn, .int .i64 1] 46) := ⟨_, rfl⟩
    have hbz : Below w.heap.size w wz := by rw [hwz]; exact ((Below.refl _ _).alloc (Nat.le_refl _) _).alloc (by simp) _
    have hsz : wz.heap.size = w.heap.size + 2 := by rw [hwz]; simp
    have l0 := lift_cell (W := wz) (b := w.heap.size) (o := 0) (by omega) (show wz.cell? ⟨w.heap.size, 0, none⟩ = some (.int .i64 an) by rw [hwz, World.cell?_alloc_past _ _ _ (by simp), World.cell?_alloc_at _ _ _ _ rfl]; rfl)
    have l1 := lift_cell (W := wz) (b := w.heap.size) (o := 1) (by omega) (show wz.cell? ⟨w.heap.size, 1, none⟩ = some (.int .i64 1) by rw [hwz, World.cell?_alloc_past _ _ _ (by simp), World.cell?_alloc_at _ _ _ _ rfl]; rfl)
    have l2 := lift_cell (W := wz) (b := w.heap.size + 1) (o := 0) (by omega) (show wz.cell? ⟨w.heap.size + 1, 0, none⟩ = some (.int .i64 bn) by rw [hwz, World.cell?_alloc_at _ _ _ _ (by simp)]; rfl)
    have l3 := lift_cell (W := wz) (b := w.heap.size + 1) (o := 1) (by omega) (show wz.cell? ⟨w.heap.size + 1, 1, none⟩ = some (.int .i64 1) by rw [hwz, World.cell?_alloc_at _ _ _ _ (by simp)]; rfl)
    have HWZ := hid hwz
    have HBZ := hid hbz
    clear hC hwz hbz hsz
    go_enter Try.func85, Try.ntmps85
    go_wp2
    rw [← HWZ.out]
    refine region_lift (by kernel_rfl) (by kernel_rfl) ?_
    repeat (go_big_quiet_step (first
      | (go_at_call 134; exact lift_calls (product_c _ _ _ (by omega) (by omega)))
      | (go_at_call 135; exact lift_calls (wcompare_c _ _ _))))
    refine wpQuiet_nil ?_
    rintro _ ⟨X, rfl⟩
    have hfin := chain HBZ.out (lift_below wz X)
    go_wp2
    go_ret
    exact ⟨ret_int (by rw [HCC.out]; try simp), hfin⟩
  · rw [if_pos c1, if_neg c2]
    obtain ⟨C, hC⟩ : ∃ C, C = cmpI (an * bd) (bn * 1) := ⟨_, rfl⟩
    rw [← hC]
    have HCC := hid hC
    obtain ⟨wz, hwz⟩ : ∃ wz, wz = (w.alloc (.cells #[.int .i64 an, .int .i64 1] 46)).alloc (.cells #[.int .i64 bn, .int .i64 bd] 46) := ⟨_, rfl⟩
    have hbz : Below w.heap.size w wz := by rw [hwz]; exact ((Below.refl _ _).alloc (Nat.le_refl _) _).alloc (by simp) _
    have hsz : wz.heap.size = w.heap.size + 2 := by rw [hwz]; simp
    have l0 := lift_cell (W := wz) (b := w.heap.size) (o := 0) (by omega) (show wz.cell? ⟨w.heap.size, 0, none⟩ = some (.int .i64 an) by rw [hwz, World.cell?_alloc_past _ _ _ (by simp), World.cell?_alloc_at _ _ _ _ rfl]; rfl)
    have l1 := lift_cell (W := wz) (b := w.heap.size) (o := 1) (by omega) (show wz.cell? ⟨w.heap.size, 1, none⟩ = some (.int .i64 1) by rw [hwz, World.cell?_alloc_past _ _ _ (by simp), World.cell?_alloc_at _ _ _ _ rfl]; rfl)
    have l2 := lift_cell (W := wz) (b := w.heap.size + 1) (o := 0) (by omega) (show wz.cell? ⟨w.heap.size + 1, 0, none⟩ = some (.int .i64 bn) by rw [hwz, World.cell?_alloc_at _ _ _ _ (by simp)]; rfl)
    have l3 := lift_cell (W := wz) (b := w.heap.size + 1) (o := 1) (by omega) (show wz.cell? ⟨w.heap.size + 1, 1, none⟩ = some (.int .i64 bd) by rw [hwz, World.cell?_alloc_at _ _ _ _ (by simp)]; rfl)
    have HWZ := hid hwz
    have HBZ := hid hbz
    clear hC hwz hbz hsz
    go_enter Try.func85, Try.ntmps85
    go_wp2
    rw [← HWZ.out]
    refine region_lift (by kernel_rfl) (by kernel_rfl) ?_
    repeat (go_big_quiet_step (first
      | (go_at_call 134; exact lift_calls (product_c _ _ _ (by omega) (by omega)))
      | (go_at_call 135; exact lift_calls (wcompare_c _ _ _))))
    refine wpQuiet_nil ?_
    rintro _ ⟨X, rfl⟩
    have hfin := chain HBZ.out (lift_below wz X)
    go_wp2
    go_ret
    exact ⟨ret_int (by rw [HCC.out]; try simp), hfin⟩
  · rw [if_neg c1, if_pos c2]
    obtain ⟨C, hC⟩ : ∃ C, C = cmpI (an * 1) (bn * ad) := ⟨_, rfl⟩
    rw [← hC]
    have HCC := hid hC
    obtain ⟨wz, hwz⟩ : ∃ wz, wz = (w.alloc (.cells #[.int .i64 an, .int .i64 ad] 46)).alloc (.cells #[.int .i64 bn, .int .i64 1] 46) := ⟨_, rfl⟩
    have hbz : Below w.heap.size w wz := by rw [hwz]; exact ((Below.refl _ _).alloc (Nat.le_refl _) _).alloc (by simp) _
    have hsz : wz.heap.size = w.heap.size + 2 := by rw [hwz]; simp
    have l0 := lift_cell (W := wz) (b := w.heap.size) (o := 0) (by omega) (show wz.cell? ⟨w.heap.size, 0, none⟩ = some (.int .i64 an) by rw [hwz, World.cell?_alloc_past _ _ _ (by simp), World.cell?_alloc_at _ _ _ _ rfl]; rfl)
    have l1 := lift_cell (W := wz) (b := w.heap.size) (o := 1) (by omega) (show wz.cell? ⟨w.heap.size, 1, none⟩ = some (.int .i64 ad) by rw [hwz, World.cell?_alloc_past _ _ _ (by simp), World.cell?_alloc_at _ _ _ _ rfl]; rfl)
    have l2 := lift_cell (W := wz) (b := w.heap.size + 1) (o := 0) (by omega) (show wz.cell? ⟨w.heap.size + 1, 0, none⟩ = some (.int .i64 bn) by rw [hwz, World.cell?_alloc_at _ _ _ _ (by simp)]; rfl)
    have l3 := lift_cell (W := wz) (b := w.heap.size + 1) (o := 1) (by omega) (show wz.cell? ⟨w.heap.size + 1, 1, none⟩ = some (.int .i64 1) by rw [hwz, World.cell?_alloc_at _ _ _ _ (by simp)]; rfl)
    have HWZ := hid hwz
    have HBZ := hid hbz
    clear hC hwz hbz hsz
    go_enter Try.func85, Try.ntmps85
    go_wp2
    rw [← HWZ.out]
    refine region_lift (by kernel_rfl) (by kernel_rfl) ?_
    repeat (go_big_quiet_step (first
      | (go_at_call 134; exact lift_calls (product_c _ _ _ (by omega) (by omega)))
      | (go_at_call 135; exact lift_calls (wcompare_c _ _ _))))
    refine wpQuiet_nil ?_
    rintro _ ⟨X, rfl⟩
    have hfin := chain HBZ.out (lift_below wz X)
    go_wp2
    go_ret
    exact ⟨ret_int (by rw [HCC.out]; try simp), hfin⟩
  · rw [if_neg c1, if_neg c2]
    obtain ⟨C, hC⟩ : ∃ C, C = cmpI (an * bd) (bn * ad) := ⟨_, rfl⟩
    rw [← hC]
    have HCC := hid hC
    obtain ⟨wz, hwz⟩ : ∃ wz, wz = (w.alloc (.cells #[.int .i64 an, .int .i64 ad] 46)).alloc (.cells #[.int .i64 bn, .int .i64 bd] 46) := ⟨_, rfl⟩
    have hbz : Below w.heap.size w wz := by rw [hwz]; exact ((Below.refl _ _).alloc (Nat.le_refl _) _).alloc (by simp) _
    have hsz : wz.heap.size = w.heap.size + 2 := by rw [hwz]; simp
    have l0 := lift_cell (W := wz) (b := w.heap.size) (o := 0) (by omega) (show wz.cell? ⟨w.heap.size, 0, none⟩ = some (.int .i64 an) by rw [hwz, World.cell?_alloc_past _ _ _ (by simp), World.cell?_alloc_at _ _ _ _ rfl]; rfl)
    have l1 := lift_cell (W := wz) (b := w.heap.size) (o := 1) (by omega) (show wz.cell? ⟨w.heap.size, 1, none⟩ = some (.int .i64 ad) by rw [hwz, World.cell?_alloc_past _ _ _ (by simp), World.cell?_alloc_at _ _ _ _ rfl]; rfl)
    have l2 := lift_cell (W := wz) (b := w.heap.size + 1) (o := 0) (by omega) (show wz.cell? ⟨w.heap.size + 1, 0, none⟩ = some (.int .i64 bn) by rw [hwz, World.cell?_alloc_at _ _ _ _ (by simp)]; rfl)
    have l3 := lift_cell (W := wz) (b := w.heap.size + 1) (o := 1) (by omega) (show wz.cell? ⟨w.heap.size + 1, 1, none⟩ = some (.int .i64 bd) by rw [hwz, World.cell?_alloc_at _ _ _ _ (by simp)]; rfl)
    have HWZ := hid hwz
    have HBZ := hid hbz
    clear hC hwz hbz hsz
    go_enter Try.func85, Try.ntmps85
    go_wp2
    rw [← HWZ.out]
    refine region_lift (by kernel_rfl) (by kernel_rfl) ?_
    repeat (go_big_quiet_step (first
      | (go_at_call 134; exact lift_calls (product_c _ _ _ (by omega) (by omega)))
      | (go_at_call 135; exact lift_calls (wcompare_c _ _ _))))
    refine wpQuiet_nil ?_
    rintro _ ⟨X, rfl⟩
    have hfin := chain HBZ.out (lift_below wz X)
    go_wp2
    go_ret
    exact ⟨ret_int (by rw [HCC.out]; try simp), hfin⟩

theorem lcompare_c (w : World) (an ad bn bd : Int) (h1 : F64 an) (h2 : F64 ad) (h3 : F64 bn) (h4 : F64 bd) :
    Calls Try.prog 35 #[.agg #[.int .i64 an, .int .i64 ad], .agg #[.int .i64 bn, .int .i64 bd]] w fun e w' => e = .returned (.int .i64 (cmpR an ad bn bd)) ∧ Below w.heap.size w w' := by
  have HC := hid (fun X => fcompare_c X an ad bn bd h1 h2 h3 h4)
  obtain ⟨C, hC⟩ : ∃ C, C = cmpR an ad bn bd := ⟨_, rfl⟩
  rw [← hC] at HC ⊢
  have HBL := hid (show Below w.heap.size w ((w.alloc (.cells #[.int .i64 an, .int .i64 ad] 46)).alloc (.cells #[.int .i64 bn, .int .i64 bd] 46)) from ((Below.refl _ _).alloc (Nat.le_refl _) _).alloc (by simp) _)
  clear hC
  go_enter Try.func35, Try.ntmps35
  go_wp2_with (go_at_call 85; refine (HC.out _).mono ?_; rintro e w1 ⟨rfl, hb1⟩)
  go_ret
  exact ⟨rfl, chain HBL.out hb1⟩

theorem down_facts {n d : Int} (hd : 1 ≤ d) : (n.tmod d < 0 → n.tdiv d - 1 = n / d ∧ n.tmod d + d = n % d) ∧ (¬ n.tmod d < 0 → n.tdiv d = n / d ∧ n.tmod d = n % d) ∧ -d < n.tmod d ∧ n.tmod d < d := by
  have e := Int.mul_tdiv_add_tmod n d
  have b1 : n.tmod d < d := Int.tmod_lt_of_pos n (by omega)
  have b2 : -d < n.tmod d := by
    have := Int.lt_tmod_of_pos n (show 0 < d by omega)
    omega
  refine ⟨fun h => ?_, fun h => ?_, b2, b1⟩
  · have := (Int.ediv_emod_unique (a := n) (b := d) (r := n.tmod d + d) (q := n.tdiv d - 1) (by omega)).2 ⟨by rw [Int.mul_sub]; omega, by omega, by omega⟩
    exact ⟨this.1.symm, this.2.symm⟩
  · have := (Int.ediv_emod_unique (a := n) (b := d) (r := n.tmod d) (q := n.tdiv d) (by omega)).2 ⟨by omega, by omega, by omega⟩
    exact ⟨this.1.symm, this.2.symm⟩

theorem down_c (w : World) (n d : Int) (hn : F64 n) (hd : 1 ≤ d ∧ d ≤ 9223372036854775807) :
    Calls Try.prog 86 #[.int .i64 n, .int .i64 d] w fun e w' => e = .returned (.tuple #[.int .i64 (n / d), .int .i64 (n % d)]) ∧ ∃ k, w' = w.drewN k := by
  obtain ⟨f1, f2, f3, f4⟩ := down_facts (n := n) hd.1
  obtain ⟨hna, hnb⟩ := hn
  obtain ⟨hd1, hd2⟩ := hd
  have hq : (n.tdiv d).natAbs ≤ n.natAbs := by rw [Int.natAbs_tdiv]; exact Nat.div_le_self _ _
  have hq3 : n.tdiv d ≤ 9223372036854775807 := by
    rcases Int.lt_or_le n 0 with h | h
    · have e : n.tdiv d = -((-n).tdiv d) := by rw [Int.neg_tdiv]; omega
      have := Int.tdiv_nonneg (show 0 ≤ -n by omega) (show 0 ≤ d by omega)
      omega
    · omega
  have hq2 : n.tmod d < 0 → -9223372036854775808 < n.tdiv d := fun h => by
    have := (f1 h)
    have e := Int.mul_ediv_add_emod n d
    rcases Int.lt_or_le (-9223372036854775808) (n.tdiv d) with h5 | h5
    · exact h5
    · exfalso
      have h6 : n.tdiv d = -9223372036854775808 := by omega
      have h7 : n = -9223372036854775808 := by omega
      have h8 := Int.mul_tdiv_add_tmod n d
      rw [h6] at h8
      have h9 : d * -9223372036854775808 ≤ -9223372036854775808 := by omega
      omega
  obtain ⟨Q, hQ⟩ : ∃ Q, Q = n / d := ⟨_, rfl⟩
  obtain ⟨R, hR⟩ : ∃ Q, Q = n % d := ⟨_, rfl⟩
  obtain ⟨q, hq0⟩ : ∃ Q, Q = n.tdiv d := ⟨_, rfl⟩
  obtain ⟨r, hr0⟩ : ∃ Q, Q = n.tmod d := ⟨_, rfl⟩
  rw [← hQ, ← hR] at f1 f2
  rw [← hq0, ← hr0] at f1 f2 hq2
  rw [← hr0] at f3 f4
  rw [← hq0] at hq hq3
  rw [← hQ, ← hR]
  have w1 : IntKind.i64.wrap (n.tdiv d) = q := by rw [← hq0]; exact IntWalk.i64_in _ (by omega)
  have w2 : n.tmod d = r := hr0.symm
  have hdz : ¬ (d = 0) := by omega
  clear hQ hR hq0 hr0
  by_cases h : r < 0
  · obtain ⟨g1, g2⟩ := f1 h
    have g3 := hq2 h
    have w3 : IntKind.i64.wrap (q - 1) = Q := by rw [g1]; exact IntWalk.i64_in _ (by omega)
    have w4 : IntKind.i64.wrap (r + d) = R := by rw [g2]; exact IntWalk.i64_in _ (by omega)
    clear f1 f2 hq2 g1 g2
    go_enter Try.func86, Try.ntmps86
    go_wp2
    go_quiet (fail)
    go_wp2
    go_ret2
    exact ⟨rfl, _, rfl⟩
  · obtain ⟨g1, g2⟩ := f2 h
    subst g1
    subst g2
    clear f1 f2 hq2
    go_enter Try.func86, Try.ntmps86
    go_wp2
    go_quiet (fail)
    go_wp2
    go_ret2
    exact ⟨rfl, _, rfl⟩
end
end Go.Proofs.Ytfipebkhomppmaa

/- Walks: Beyond (package part); nothing, million (reference 03), Dot (reference 02); Kernel and Rank of reference 03. -/
import Derived.Test.YtfipebkhomppmaaLwZ
import Derived.Test.YtfipebkhomppmaaLwR
namespace Go.Proofs.Ytfipebkhomppmaa
open Go.RowKit
set_option linter.unusedVariables false

theorem pwithin_c (n lo hi : Int) (w : World) : Calls Try.prog 128 #[.int .i64 n, .int .i64 lo, .int .i64 hi] w fun e w' => e = .returned (.bool (inB n lo hi)) ∧ w = w' := by
  by_cases h1 : lo ≤ n <;> by_cases h2 : n ≤ hi
  all_goals
    go_enter Try.func128, Try.ntmps128
    go_wp2
    go_ret
    exact ⟨ret_bool (by simp [inB, h1, h2]), rfl⟩

theorem beyond1 (w : World) (b : Nat) (m : Int) (hm : 0 ≤ m ∧ m ≤ 1000000000) (hc : w.cell? ⟨b, 0, none⟩ = some (.int .i64 m)) (hb : b < w.heap.size) :
    PredI Try.prog 127 #[.pointer (some ⟨b, 0, none⟩)] w (fun n => !(inB n (-m) m)) := by
  intro x W hW
  have hc' : W.cell? ⟨b, 0, none⟩ = some (.int .i64 m) := (hW.cell (p := ⟨b, 0, none⟩) hb).trans hc
  obtain ⟨z, hz⟩ : ∃ z, z = -m := ⟨_, rfl⟩
  have hw : IntKind.i64.wrap (-m) = z := by rw [hz]; exact IntWalk.i64_in _ (by omega)
  rw [← hz]
  obtain ⟨B, hB⟩ : ∃ B, B = inB x z m := ⟨_, rfl⟩
  have HP := hid (pwithin_c x z m W)
  rw [← hB] at HP
  simp only [← hB]
  clear hB hc hz
  show Calls Try.prog 127 #[.int .i64 x, .pointer (some ⟨b, 0, none⟩)] W _
  go_enter Try.func127, Try.ntmps127
  go_wp2_with (go_at_call 128; refine HP.out.mono ?_; rintro e w1 ⟨rfl, rfl⟩)
  go_ret
  exact ⟨rfl, Below.refl _ _⟩

def nilB (l : List Int) : Bool := l.all (fun n => decide (n = 0))
def milB (l : List Int) : Bool := l.all (fun n => inB n (-1000000) 1000000)

theorem nothing_c (w : World) (a : Option Addr) (n cap : Nat) (l : List Int) (hn : l.length = n) (hm : n ≤ maxLen) (H : IntsAt w a l) :
    Calls Try.prog 75 #[.slice a n cap] w fun e w' => e = .returned (.bool (nilB l)) ∧ w = w' := by
  have HN := hid hn
  have HH := hid H
  clear hn H
  unfold maxLen at hm
  go_enter Try.func75, Try.ntmps75
  go_wp2
  go_loop [7] (fun i => ∃ k : Nat, k ≤ n ∧ i = .int .i64 k ∧ Hid (∀ j (hj : j < l.length), j < k → decide (l[j] = 0) = true)) (fun i => n - (intOf i).toNat)
  case atStart => exact ⟨0, Nat.zero_le _, rfl, hid (fun j _ h => by omega)⟩
  case round =>
    obtain ⟨k, hk, rfl, HNO⟩ := hrel
    by_cases hlt : k < n
    · have hkl : k < l.length := by rw [HN.out]; exact hlt
      obtain ⟨b, off, rfl, hbs, hc⟩ := HH.out k hkl
      have hg : l[k]?.getD 0 = l[k] := by rw [List.getElem?_eq_getElem hkl]; rfl
      rw [hg] at hc
      have HST := hid (fun (h : decide (l[k] = 0) = false) => (all_stop (p := fun n : Int => decide (n = 0)) hkl h : nilB l = false))
      have HNX := hid (fun (h : decide (l[k] = 0) = true) => (show ∀ j (hj : j < l.length), j < k + 1 → decide (l[j] = 0) = true from fun j hj hlt => by
        rcases Nat.lt_or_ge j k with h1 | h1
        · exact HNO.out j hj h1
        · have : j = k := by omega
          subst this; exact h))
      obtain ⟨x, hx⟩ : ∃ x, x = l[k] := ⟨_, rfl⟩
      rw [← hx] at hc HST HNX
      clear hg hx hkl
      by_cases h0 : x = 0
      · have HX := hid (HNX.out (by simp [h0]))
        subst h0
        clear HST HNX
        go_wp2
        go_round
        case rel => exact ⟨k + 1, by omega, by go_num, HX⟩
        case measure => simp [intOf]; omega
      · have HX := hid (HST.out (by simp [h0]))
        clear HST HNX
        go_wp2
        go_ret
        exact ⟨ret_bool HX.out.symm, rfl⟩
    · go_wp2
      go_ret
      refine ⟨ret_bool ?_, rfl⟩
      exact (all_done (p := fun n : Int => decide (n = 0)) (fun j hj => HNO.out j hj (by have := HN.out; omega))).symm

theorem million_c (w : World) (a : Option Addr) (n cap : Nat) (l : List Int) (hn : l.length = n) (hm : n ≤ maxLen) (H : IntsAt w a l) :
    Calls Try.prog 74 #[.slice a n cap] w fun e w' => e = .returned (.bool (milB l)) ∧ w = w' := by
  have HN := hid hn
  have HH := hid H
  clear hn H
  unfold maxLen at hm
  go_enter Try.func74, Try.ntmps74
  go_wp2
  go_loop [7] (fun i => ∃ k : Nat, k ≤ n ∧ i = .int .i64 k ∧ Hid (∀ j (hj : j < l.length), j < k → inB l[j] (-1000000) 1000000 = true)) (fun i => n - (intOf i).toNat)
  case atStart => exact ⟨0, Nat.zero_le _, rfl, hid (fun j _ h => by omega)⟩
  case round =>
    obtain ⟨k, hk, rfl, HNO⟩ := hrel
    by_cases hlt : k < n
    · have hkl : k < l.length := by rw [HN.out]; exact hlt
      obtain ⟨b, off, rfl, hbs, hc⟩ := HH.out k hkl
      have hg : l[k]?.getD 0 = l[k] := by rw [List.getElem?_eq_getElem hkl]; rfl
      rw [hg] at hc
      have HST := hid (fun (h : inB l[k] (-1000000) 1000000 = false) => (all_stop (p := fun n : Int => inB n (-1000000) 1000000) hkl h : milB l = false))
      have HNX := hid (fun (h : inB l[k] (-1000000) 1000000 = true) => (show ∀ j (hj : j < l.length), j < k + 1 → inB l[j] (-1000000) 1000000 = true from fun j hj hlt => by
        rcases Nat.lt_or_ge j k with h1 | h1
        · exact HNO.out j hj h1
        · have : j = k := by omega
          subst this; exact h))
      obtain ⟨x, hx⟩ : ∃ x, x = l[k] := ⟨_, rfl⟩
      rw [← hx] at hc HST HNX
      obtain ⟨B, hB⟩ : ∃ B, B = inB x (-1000000) 1000000 := ⟨_, rfl⟩
      have HW := hid (fun (W : World) => r3within_c x (-1000000) 1000000 W)
      rw [← hB] at HW HST HNX
      clear hg hx hkl hB
      cases B
      · have HX := hid (HST.out rfl)
        clear HST HNX
        go_wp2_with (go_at_call 96; refine (HW.out _).mono ?_; rintro e w1 ⟨rfl, rfl⟩)
        go_ret
        exact ⟨ret_bool HX.out.symm, rfl⟩
      · have HX := hid (HNX.out rfl)
        clear HST HNX
        go_wp2_with (go_at_call 96; refine (HW.out _).mono ?_; rintro e w1 ⟨rfl, rfl⟩)
        go_round
        case rel => exact ⟨k + 1, by omega, by go_num, HX⟩
        case measure => simp [intOf]; omega
    · go_wp2
      go_ret
      refine ⟨ret_bool ?_, rfl⟩
      exact (all_done (p := fun n : Int => inB n (-1000000) 1000000) (fun j hj => HNO.out j hj (by have := HN.out; omega))).symm

/-- the dot product -/
def dotV (r h : List Int) : Int := sm (fun c => vec r c * vec h c) r.length
theorem dot_le {r h : List Int} (hr : BndL 67108864 r) (hh : BndL 67108864 h) : ∀ k : Nat, (sm (fun c => vec r c * vec h c) k).natAbs ≤ k * 4503599627370496
  | 0 => by simp [sm]
  | k + 1 => by
    have h1 := dot_le hr hh k
    have h2 : (vec r k).natAbs ≤ 67108864 := by have := vec_mem (P := fun x => -((67108864 : Nat) : Int) ≤ x ∧ x ≤ ((67108864 : Nat) : Int)) (by decide) hr k; omega
    have h3 : (vec h k).natAbs ≤ 67108864 := by have := vec_mem (P := fun x => -((67108864 : Nat) : Int) ≤ x ∧ x ≤ ((67108864 : Nat) : Int)) (by decide) hh k; omega
    have h4 : (vec r k * vec h k).natAbs ≤ 67108864 * 67108864 := by rw [Int.natAbs_mul]; exact Nat.mul_le_mul h2 h3
    show (sm (fun c => vec r c * vec h c) k + vec r k * vec h k).natAbs ≤ _
    omega

theorem r2dot_c (w : World) (a a2 : Option Addr) (n cap n2 cap2 : Nat) (r h : List Int) (hn : r.length = n) (hn2 : h.length = n2) (hm : n ≤ 1000) (hle : n ≤ n2) (H : IntsAt w a r) (H2 : IntsAt w a2 h) (hr : BndL 67108864 r) (hh : BndL 67108864 h) :
    Calls Try.prog 47 #[.slice a n cap, .slice a2 n2 cap2] w fun e w' => e = .returned (.int .i64 (dotV r h)) ∧ ∃ k, w' = w.drewN k := by
  have HN := hid hn
  have HN2 := hid hn2
  have HH := hid H
  have HH2 := hid H2
  have HDL := hid (dot_le hr hh)
  have HR := hid hr
  have HHB := hid hh
  have HD := hid (show dotV r h = sm (fun c => vec r c * vec h c) n by unfold dotV; rw [hn])
  clear hn hn2 H H2 hr hh
  go_enter Try.func47, Try.ntmps47
  go_wp2
  go_loopw [5, 9] (fun s i wr => ∃ k : Nat, k ≤ n ∧ i = .int .i64 k ∧ s = .int .i64 (sm (fun c => vec r c * vec h c) k) ∧ ∃ q, wr = w.drewN q) (fun _ i _ => n - (intOf i).toNat)
  case atStart => exact ⟨0, Nat.zero_le _, rfl, rfl, 0, rfl⟩
  case round =>
    obtain ⟨k, hk, rfl, rfl, q, rfl⟩ := hrel
    by_cases hlt : k < n
    · have hkl : k < r.length := by rw [HN.out]; exact hlt
      have hkl2 : k < h.length := by rw [HN2.out]; omega
      obtain ⟨b, off, rfl, hbs, hc⟩ := HH.out k hkl
      obtain ⟨b2, off2, rfl, hbs2, hc2⟩ := HH2.out k hkl2
      have g1 := HR.out.get hkl
      have g2 := HHB.out.get hkl2
      have e1 := HDL.out k
      have e2 := HDL.out (k + 1)
      have es : sm (fun c => vec r c * vec h c) (k + 1) = sm (fun c => vec r c * vec h c) k + r[k]?.getD 0 * h[k]?.getD 0 := rfl
      obtain ⟨x, hx⟩ : ∃ x, x = r[k]?.getD 0 := ⟨_, rfl⟩
      obtain ⟨y, hy⟩ : ∃ x, x = h[k]?.getD 0 := ⟨_, rfl⟩
      rw [← hx] at hc g1 es
      rw [← hy] at hc2 g2 es
      obtain ⟨s0, hs0⟩ : ∃ x, x = sm (fun c => vec r c * vec h c) k := ⟨_, rfl⟩
      rw [← hs0] at es e1 ⊢
      rw [es] at e2
      have e3 := mul_bnd (show -(67108864 : Int) ≤ x ∧ x ≤ 67108864 by omega) (show -(67108864 : Int) ≤ y ∧ y ≤ 67108864 by omega)
      obtain ⟨m, hmm⟩ : ∃ m, m = x * y := ⟨_, rfl⟩
      rw [← hmm] at es e2 e3
      have w1 : IntKind.i64.wrap (x * y) = m := by rw [← hmm]; exact IntWalk.i64_in _ (by omega)
      have w2 : IntKind.i64.wrap (s0 + m) = s0 + m := IntWalk.i64_in _ (by omega)
      have HES := hid es
      have i1 : (0 : Int) ≤ (k : Int) := by omega
      have i2 : (k : Int) < (n : Int) := by omega
      have i3 : (k : Int) < (n2 : Int) := by omega
      clear hx hy hs0 hmm es e1 e2 e3 g1 g2 hkl hkl2
      go_wp2
      go_quiet (fail)
      go_wp2
      exact ⟨⟨k + 1, by omega, by go_num, by rw [HES.out], _, rfl⟩, by simp [intOf]; omega⟩
    · obtain rfl : n = k := by omega
      go_wp2
      go_ret
      exact ⟨ret_int HD.out.symm, q, rfl⟩

/-- Kernel of the reference -/
theorem r3Kernel_c (w : World) (a : Option Addr) (n cap : Nat) (M : Mask) (hn : M.length = n) (hm : n ≤ maxLen) (H : RowsAt w a M) :
    Calls Try.prog 26 #[.slice a n cap] w fun e w' => ∃ v base, w.heap.size ≤ base ∧ Below w.heap.size w w' ∧
      ((okM M = false ∧ e = .returned (.tuple #[.slice none 0 0, .int .i64 1])) ∨ (okM M = true ∧ e = .returned (.tuple #[v, .int .i64 0]) ∧ TabS w' base v (kerSP M (allI (colsM M))))) := by
  have HV := hid (r2Valid_c w a n cap M hn hm H)
  cases hok : okM M
  · rw [hok] at HV
    clear hn H
    go_enter Try.func26, Try.ntmps26
    go_wp2_with (go_at_call 64; refine HV.out.mono ?_; rintro e w1 ⟨rfl, rfl⟩)
    go_ret2
    exact ⟨.slice none 0 0, w.heap.size, Nat.le_refl _, Below.refl _ _, .inl ⟨by first | trivial | rfl, rfl⟩⟩
  · rw [hok] at HV
    obtain ⟨hM, h1, h6, hc1, hc10⟩ := okM_ok hok
    have HK := hid (r3kernel_c w a n cap M hn (by omega) (colsM M) hc1 (by omega) hM H)
    have hke : kerSP M (allI (colsM M)) = kernP (RP M (colsM M)) (JP M (colsM M)) (colsM M) := by unfold kerSP; rw [cols_all hM.wid, allI_len]
    rw [hke]
    clear hn H hM hok hke
    go_enter Try.func26, Try.ntmps26
    go_wp2_with (go_at_call 64; refine HV.out.mono ?_; rintro e w1 ⟨rfl, rfl⟩)
    go_wp2_with (go_at_call 66; refine HK.out.mono ?_; rintro e w2 ⟨v, base, rfl, hbs, hT, hb⟩; refine Stop.of ?_)
    refine Stop.go ?_
    have HT := hid hT
    clear hT
    go_wp2
    go_ret2
    exact ⟨v, base, hbs, hb, .inr ⟨by first | trivial | rfl, rfl, HT.out⟩⟩

/-- Rank of the reference -/
theorem r3Rank_c (w : World) (a : Option Addr) (n cap : Nat) (M : Mask) (hn : M.length = n) (hm : n ≤ maxLen) (H : RowsAt w a M) :
    Calls Try.prog 37 #[.slice a n cap] w fun e w' => Below w.heap.size w w' ∧
      ((okM M = false ∧ e = .returned (.tuple #[.int .i64 0, .int .i64 1])) ∨ (okM M = true ∧ e = .returned (.tuple #[.int .i64 (rankF M (colsM M)), .int .i64 0]))) := by
  have HV := hid (r2Valid_c w a n cap M hn hm H)
  cases hok : okM M
  · rw [hok] at HV
    clear hn H
    go_enter Try.func37, Try.ntmps37
    go_wp2_with (go_at_call 64; refine HV.out.mono ?_; rintro e w1 ⟨rfl, rfl⟩)
    go_ret2
    exact ⟨Below.refl _ _, .inl ⟨by first | trivial | rfl, rfl⟩⟩
  · rw [hok] at HV
    obtain ⟨hM, h1, h6, hc1, hc10⟩ := okM_ok hok
    have hB := refB hM
    have HRd := hid (r3reduced_c w a n cap M (colsM M) hn (by omega) H hM.wid (by omega) (fun r hr => mem_vec (P := fun x => -((4611686018427387904 : Nat) : Int) ≤ x ∧ x ≤ ((4611686018427387904 : Nat) : Int)) fun c => by have := hM.one r hr c; omega)
      (fun t ht r hr => ⟨(hB t ht r hr).1, fun x hx => by have := (hB t ht r hr).2 x hx; omega⟩) (fun t => by rw [(ref_lens hM.wid t).1, hn]) (fun t => (ref_lens hM.wid t).2))
    have he : (rRed M (colsM M)).piv.length = rankF M (colsM M) := by
      obtain ⟨e1, _⟩ := red_same (n := colsM M) hM.wid (fun r hr c _ => hM.one r hr c) (Nat.le_refl (colsM M)) (fun q _ _ c h1 h2 => by omega)
      unfold rankF; rw [e1]
    rw [he] at HRd
    clear hn H hM hok he hB
    go_enter Try.func37, Try.ntmps37
    go_wp2_with (go_at_call 64; refine HV.out.mono ?_; rintro e w1 ⟨rfl, rfl⟩)
    go_wp2_with (go_at_call 87; refine HRd.out.mono ?_; rintro e w2 ⟨vD, vP, rfl, hT, hP, hb⟩; refine Stop.of ?_)
    refine Stop.go ?_
    obtain ⟨pa, pc, rfl⟩ := ownsRow_slice hP
    clear hT hP
    go_wp2
    go_ret2
    exact ⟨hb, .inr ⟨by first | trivial | rfl, rfl⟩⟩
end Go.Proofs.Ytfipebkhomppmaa

/- Walks: back, Weighs (package lin), Weighs of the reference. -/
import Derived.Test.YtfipebkhomppmaaLwAM
namespace Go.Proofs.Ytfipebkhomppmaa
open Go.RowKit
set_option linter.unusedVariables false

/-- whether a list is a weight of a pixel -/
def weighB (M : Mask) (p : Int) (z : List Int) : Bool :=
  okM M && (decide (z.length = M.length) && (milB z && (inB p 0 ((colsM M : Int) - 1) && decide (∀ j, j < colsM M → ((j : Int) = p → 0 < vec (backF M (colsM M) z) j) ∧ ((j : Int) ≠ p → vec (backF M (colsM M) z) j = 0)))))
theorem wb_no1 {M : Mask} {p : Int} {z : List Int} (e : okM M = false) : weighB M p z = false := by unfold weighB; rw [e]; rfl
theorem wb_no2 {M : Mask} {p : Int} {z : List Int} (e : z.length ≠ M.length) : weighB M p z = false := by unfold weighB; rw [decide_eq_false e]; simp
theorem wb_no3 {M : Mask} {p : Int} {z : List Int} (e : milB z = false) : weighB M p z = false := by unfold weighB; rw [e]; simp
theorem wb_no4 {M : Mask} {p : Int} {z : List Int} (e : inB p 0 ((colsM M : Int) - 1) = false) : weighB M p z = false := by unfold weighB; rw [e]; simp
theorem wb_no5 {M : Mask} {p : Int} {z : List Int} {j : Nat} (hj : j < colsM M) (e : ¬ (((j : Int) = p → 0 < vec (backF M (colsM M) z) j) ∧ ((j : Int) ≠ p → vec (backF M (colsM M) z) j = 0))) : weighB M p z = false := by
  have hd : decide (∀ j, j < colsM M → ((j : Int) = p → 0 < vec (backF M (colsM M) z) j) ∧ ((j : Int) ≠ p → vec (backF M (colsM M) z) j = 0)) = false := decide_eq_false fun h => e (h j hj)
  unfold weighB; rw [hd]; simp
theorem wb_yes {M : Mask} {p : Int} {z : List Int} (e1 : okM M = true) (e2 : z.length = M.length) (e3 : milB z = true) (e4 : inB p 0 ((colsM M : Int) - 1) = true) (e5 : ∀ j, j < colsM M → ((j : Int) = p → 0 < vec (backF M (colsM M) z) j) ∧ ((j : Int) ≠ p → vec (backF M (colsM M) z) j = 0)) : weighB M p z = true := by
  unfold weighB; rw [e1, decide_eq_true e2, e3, e4, decide_eq_true e5]; rfl
/-- what back says -/
def preB (M : Mask) (z : List Int) : Bool := okM M && (decide (z.length = M.length) && milB z)

set_option maxHeartbeats 1000000 in
theorem lback_c (w : World) (a a2 : Option Addr) (n cap n2 cap2 : Nat) (M : Mask) (z : List Int) (hn : M.length = n) (hn2 : z.length = n2) (hm : n ≤ maxLen) (hm2 : n2 ≤ maxLen) (H : RowsAt w a M) (H2 : IntsAt w a2 z) :
    Calls Try.prog 95 #[.slice a n cap, .slice a2 n2 cap2] w fun e w' => Below w.heap.size w w' ∧ ((preB M z = false ∧ e = .returned (.tuple #[.slice none 0 0, .bool false])) ∨ (preB M z = true ∧ ∃ v base, e = .returned (.tuple #[v, .bool true]) ∧ w'.ownsRow base 3 1 v (colsM M) ((backF M (colsM M) z).map (Value.int .i64)))) := by
  have HV := hid (maskValid_c w a n cap M hn hm H)
  cases hok : okM M
  · rw [hok] at HV
    have hp : preB M z = false := by unfold preB; rw [hok]; rfl
    rw [hp]
    clear hn hn2 H H2 hok hp
    go_enter Try.func95, Try.ntmps95
    go_wp2_with (go_at_call 69; refine HV.out.mono ?_; rintro e w1 ⟨rfl, hb1⟩)
    go_ret2
    exact ⟨hb1, .inl ⟨by first | trivial | rfl, rfl⟩⟩
  · rw [hok] at HV
    by_cases hl : n2 = n
    · subst hl
      have HII := hid (fun (X : World) (hX : Below w.heap.size w X) => H2.below hX)
      have HN2 := hid hn2
      have HBK := hid (fun (hz : milB z = true) (X : World) (hX : Below w.heap.size w X) => mback_c X a a2 n2 cap cap2 M z hn hn2 (H.below hX) (H2.below hX) hok hz)
      have hdl : ((n2 : Int) != (n2 : Int)) = false := by simp
      have hpre : preB M z = milB z := by unfold preB; rw [hok, decide_eq_true (by omega)]; rfl
      rw [hpre]
      obtain ⟨W, hW⟩ : ∃ W, W = colsM M := ⟨_, rfl⟩
      obtain ⟨Bk, hBk⟩ : ∃ B, B = backF M (colsM M) z := ⟨_, rfl⟩
      rw [← hBk, ← hW] at HBK ⊢
      obtain ⟨mz, hmz⟩ : ∃ b, b = milB z := ⟨_, rfl⟩
      have HMZ := hid hmz
      rw [← hmz] at HBK ⊢
      clear hn H H2 hok hn2 hpre hBk hW hmz
      go_enter Try.func95, Try.ntmps95
      go_wp2_with (go_at_call 69; refine HV.out.mono ?_; rintro e w1 ⟨rfl, hb1⟩; refine Stop.of ?_)
      refine Stop.go ?_
      have HBW1 := hid hb1
      clear hb1 HV
      go_wp2_with (go_at_call 72; refine (beyond_c _ 1000000).mono ?_; rintro e w2 ⟨q, rfl, hq, hqs, hb2⟩; refine Stop.of ?_)
      refine Stop.go ?_
      have HB2 := hid (chain HBW1.out hb2)
      have HCF := hid (containsI w2 a2 n2 cap2 z HN2.out hm2 (HII.out w2 HB2.out) 127 #[.pointer (some ⟨q, 0, none⟩)] (fun n => !(inB n (-1000000) 1000000)) (enters_of Try.func127 (by kernel_rfl) rfl) (beyond1 w2 q 1000000 (by decide) hq hqs))
      rw [any_mil, ← HMZ.out] at HCF
      clear hq hqs hb2
      cases mz
      · go_wp2_with (go_at_call 71; refine HCF.out.mono ?_; rintro e w3 ⟨rfl, hb3⟩)
        go_ret2
        exact ⟨chain HB2.out hb3, rfl⟩
      · have HBK2 := hid (HBK.out rfl)
        go_wp2_with (go_at_call 71; refine HCF.out.mono ?_; rintro e w3 ⟨rfl, hb3⟩; refine Stop.of ?_)
        refine Stop.go ?_
        have HB3 := hid (chain HB2.out hb3)
        clear HCF hb3
        go_wp2_with (go_at_call 139; refine (HBK2.out w3 HB3.out).mono ?_; rintro e w4 ⟨v4, base4, rfl, ho4, hb4⟩; refine Stop.of ?_)
        refine Stop.go ?_
        have HO4 := hid ho4
        have HB4 := hid (chain HB3.out hb4)
        clear ho4 hb4
        go_wp2
        go_ret2
        exact ⟨HB4.out, v4, rfl, base4, HO4.out⟩
    · have hp : preB M z = false := by unfold preB; rw [decide_eq_false (by omega)]; simp
      rw [hp]
      have hdl : ((n2 : Int) != (n : Int)) = true := by simp; omega
      clear hn hn2 H H2 hok hp
      go_enter Try.func95, Try.ntmps95
      go_wp2_with (go_at_call 69; refine HV.out.mono ?_; rintro e w1 ⟨rfl, hb1⟩)
      go_ret2
      exact ⟨hb1, .inl ⟨by first | trivial | rfl, rfl⟩⟩
theorem pre_ok {M : Mask} {z : List Int} (h : preB M z = true) : okM M = true ∧ z.length = M.length ∧ milB z = true := by
  unfold preB at h
  simp only [Bool.and_eq_true, decide_eq_true_eq] at h
  exact ⟨h.1, h.2.1, h.2.2⟩
theorem pre_wb {M : Mask} {p : Int} {z : List Int} (h : preB M z = false) : weighB M p z = false := by
  cases h1 : okM M
  · exact wb_no1 h1
  · by_cases h2 : z.length = M.length
    · cases h3 : milB z
      · exact wb_no3 h3
      · unfold preB at h; rw [h1, decide_eq_true h2, h3] at h; cases h
    · exact wb_no2 h2
theorem pix_one {M : Mask} (h : okM M = true) (p : Int) : pixE M [p] = if inB p 0 ((colsM M : Int) - 1) = true then 0 else 5 := by
  unfold pixE namedE
  rw [if_pos h, if_pos (show ascB [p] = true from pair_asc (by simp))]
  simp

set_option maxHeartbeats 2000000 in
theorem weighs_c (w : World) (a a2 : Option Addr) (n cap n2 cap2 : Nat) (M : Mask) (p : Int) (z : List Int) (hn : M.length = n) (hn2 : z.length = n2) (hm : n ≤ maxLen) (hm2 : n2 ≤ maxLen) (H : RowsAt w a M) (H2 : IntsAt w a2 z) :
    Calls Try.prog 42 #[.slice a n cap, .int .i64 p, .slice a2 n2 cap2] w fun e w' => e = .returned (.bool (weighB M p z)) ∧ Below w.heap.size w w' := by
  have HBK := hid (lback_c w a a2 n cap n2 cap2 M z hn hn2 hm hm2 H H2)
  cases hp : preB M z
  · rw [hp] at HBK
    rw [pre_wb hp]
    clear hn hn2 H H2 hp
    go_enter Try.func42, Try.ntmps42
    go_wp2_with (go_at_call 95; refine HBK.out.mono ?_; rintro e w1 ⟨hb1, ⟨_, rfl⟩ | ⟨h, _⟩⟩; rotate_left; cases h)
    go_ret
    exact ⟨rfl, hb1⟩
  · rw [hp] at HBK
    obtain ⟨hok, hzl, hmz⟩ := pre_ok hp
    obtain ⟨hM, h1, h6, hc1, hc10⟩ := okM_ok hok
    have HPX := hid (fun (X : World) (hX : Below w.heap.size w X) => pixels_c (X.alloc (.cells #[.int .i64 p] 3)) a (some ⟨X.heap.size, 0, none⟩) n cap 1 1 M [p] hn rfl hm (by decide) ((H.below hX).below ((Below.refl _ _).alloc (Nat.le_refl _) _)) (fun j hj => by
      match j, hj with
      | 0, _ => exact ⟨X.heap.size, 0, rfl, by simp, by rw [World.cell?_alloc_at _ _ _ _ rfl]; rfl⟩))
    rw [pix_one hok p] at HPX
    obtain ⟨Bb, hBb⟩ : ∃ b, b = weighB M p z := ⟨_, rfl⟩
    rw [← hBb]
    have HBB := hid hBb
    have HNO4 := hid (fun (e : inB p 0 ((colsM M : Int) - 1) = false) => hBb.trans (wb_no4 e))
    have HNO5 := hid (fun (j : Nat) (hj : j < colsM M) e => hBb.trans (wb_no5 hj e))
    have HYES := hid (fun e4 e5 => hBb.trans (wb_yes hok hzl hmz e4 e5))
    have HBL := hid (backF_len M (colsM M) z)
    obtain ⟨Bk, hBk⟩ : ∃ B, B = backF M (colsM M) z := ⟨_, rfl⟩
    rw [← hBk] at HBK HBL HNO5 HYES
    obtain ⟨W, hW⟩ : ∃ W, W = colsM M := ⟨_, rfl⟩
    rw [← hW] at HBK HBL HNO4 HNO5 HYES HPX hc1 hc10
    clear hn hn2 H H2 hok hzl hmz hM hBk hW hp hBb h1 h6
    go_enter Try.func42, Try.ntmps42
    go_wp2_with (go_at_call 95; refine HBK.out.mono ?_; rintro e w1 ⟨hb1, ⟨h, _⟩ | ⟨_, v1, base1, rfl, ho1⟩⟩; cases h; refine Stop.of ?_)
    refine Stop.go ?_
    obtain ⟨la, lc, rfl, hli, _⟩ := ints_of_own ho1 HBL.out
    have HPX1 := hid (HPX.out w1 hb1)
    have HB1 := hid hb1
    have HLI := hid hli
    have hwa : Below w1.heap.size w1 (w1.alloc (.cells #[.int .i64 p] 3)) := (Below.refl _ _).alloc (Nat.le_refl _) _
    have HWA := hid hwa
    clear ho1 hli hb1 HPX HBK hwa
    cases hin : inB p 0 ((W : Int) - 1)
    · obtain rfl : Bb = false := HNO4.out hin
      rw [hin] at HPX1
      clear hin
      have h5 : (if false = true then (0 : Int) else 5) = 5 := rfl
      rw [h5] at HPX1
      clear h5
      go_wp2_with (go_at_call 84; refine HPX1.out.mono ?_; rintro e w2 ⟨rfl, hb2⟩)
      go_ret
      exact ⟨rfl, chain HB1.out (chain HWA.out hb2)⟩
    · rw [hin] at HPX1
      have h5 : (if true = true then (0 : Int) else 5) = 0 := rfl
      rw [h5] at HPX1
      have hpb : 0 ≤ p ∧ p < (W : Int) := by
        unfold inB at hin
        simp only [Bool.and_eq_true, decide_eq_true_eq] at hin
        omega
      have HY := hid (HYES.out hin)
      obtain ⟨q, hq⟩ : ∃ q : Nat, p = (q : Int) := ⟨p.toNat, by omega⟩
      subst hq
      have hqW : q < W := by omega
      obtain ⟨b5, o5, rfl, hb5, hc5⟩ := HLI.out q (by rw [HBL.out]; exact hqW)
      have hbv : Bk[q]?.getD 0 = vec Bk q := rfl
      rw [hbv] at hc5
      clear h5 hin hpb hbv
      go_wp2_with (go_at_call 84; refine HPX1.out.mono ?_; rintro e w2 ⟨rfl, hb2⟩; refine Stop.of ?_)
      refine Stop.go ?_
      have hb12 := chain HWA.out hb2
      have hc5' : w2.cell? ⟨b5, o5 + q, none⟩ = some (.int .i64 (vec Bk q)) := (hb12.cell (p := ⟨b5, o5 + q, none⟩) hb5).trans hc5
      have HL2 := hid (HLI.out.below hb12)
      have HB2 := hid (chain HB1.out hb12)
      have HNQ := hid (fun (h : ¬ 0 < vec Bk q) => HNO5.out q hqW (fun hh => h (hh.1 rfl)))
      have HQ0 := hid (fun (h : 0 < vec Bk q) (j : Nat) (hj : (j : Int) = (q : Int)) => (show 0 < vec Bk j by rw [show j = q by omega]; exact h))
      obtain ⟨x, hx⟩ : ∃ x, x = vec Bk q := ⟨_, rfl⟩
      rw [← hx] at hc5' HNQ HQ0
      have hqi : (q : Int) < (W : Int) := by omega
      have hqi0 : (0 : Int) ≤ (q : Int) := by omega
      clear hc5 hb5 hb2 hb12 hx HPX1 HWA HLI HB1
      by_cases hx0 : x ≤ 0
      · obtain rfl : Bb = false := HNQ.out (by omega)
        go_wp2
        go_ret
        exact ⟨rfl, HB2.out⟩
      · have HQ := hid (HQ0.out (by omega))
        go_wp2
        go_loopw [35] (fun i wr => ∃ k : Nat, k ≤ W ∧ i = .int .i64 k ∧ wr = w2 ∧ Hid (∀ j, j < k → (j : Int) ≠ (q : Int) → vec Bk j = 0)) (fun i _ => W - (intOf i).toNat)
        case atStart => exact ⟨0, Nat.zero_le _, rfl, rfl, hid (fun j h => by omega)⟩
        case round =>
          obtain ⟨k, hk, rfl, rfl, HK0⟩ := hrel
          by_cases hlt : k < W
          · obtain ⟨b6, o6, e6, hb6, hc6⟩ := HL2.out k (by rw [HBL.out]; exact hlt)
            cases e6
            have hbv : Bk[k]?.getD 0 = vec Bk k := rfl
            rw [hbv] at hc6
            have HN6 := hid (fun (h : (k : Int) ≠ (q : Int)) (h2 : vec Bk k ≠ 0) => HNO5.out k hlt (fun hh => h2 (hh.2 h)))
            have HX6 := hid (fun (h : (k : Int) = (q : Int) ∨ vec Bk k = 0) => (show ∀ j, j < k + 1 → (j : Int) ≠ (q : Int) → vec Bk j = 0 from fun j hj hne => by
              rcases Nat.lt_or_ge j k with h1 | h1
              · exact HK0.out j h1 hne
              · have : j = k := by omega
                subst this
                rcases h with h | h
                · exact absurd h hne
                · exact h))
            obtain ⟨y, hy⟩ : ∃ x, x = vec Bk k := ⟨_, rfl⟩
            rw [← hy] at hc6 HN6 HX6
            clear hbv hy hb6
            by_cases hy0 : y = 0
            · have HX := hid (HX6.out (.inr hy0))
              subst hy0
              clear HN6 HX6
              go_wp2
              exact ⟨⟨k + 1, by omega, by go_num, by first | trivial | rfl, HX⟩, by simp [intOf]; omega⟩
            · have hyb : (y != 0) = true := by simpa using hy0
              by_cases hkq : (k : Int) = (q : Int)
              · have hkb : ((k : Int) != (q : Int)) = false := by simpa using hkq
                have HX := hid (HX6.out (.inl hkq))
                clear HN6 HX6 hkq
                go_wp2
                exact ⟨⟨k + 1, by omega, by go_num, by first | trivial | rfl, HX⟩, by simp [intOf]; omega⟩
              · have hkb : ((k : Int) != (q : Int)) = true := by simpa using hkq
                obtain rfl : Bb = false := HN6.out hkq hy0
                clear HN6 HX6 hkq
                go_wp2
                go_ret
                exact ⟨rfl, HB2.out⟩
          · obtain rfl : W = k := by omega
            obtain rfl : Bb = true := HY.out fun j hj => ⟨fun h => HQ.out j h, fun h => HK0.out j hj h⟩
            go_wp2
            go_ret
            exact ⟨rfl, HB2.out⟩
end Go.Proofs.Ytfipebkhomppmaa

/- Walks: Weighs of the reference; plain: what a weight tells. -/
import Derived.Test.YtfipebkhomppmaaLwAN
namespace Go.Proofs.Ytfipebkhomppmaa
open Go.RowKit
set_option linter.unusedVariables false

set_option maxHeartbeats 2000000 in
theorem r3Weighs_c (w : World) (a a2 : Option Addr) (n cap n2 cap2 : Nat) (M : Mask) (p : Int) (z : List Int) (hn : M.length = n) (hn2 : z.length = n2) (hm : n ≤ maxLen) (hm2 : n2 ≤ maxLen) (H : RowsAt w a M) (H2 : IntsAt w a2 z) :
    Calls Try.prog 43 #[.slice a n cap, .int .i64 p, .slice a2 n2 cap2] w fun e w' => e = .returned (.bool (weighB M p z)) ∧ Below w.heap.size w w' := by
  have HV := hid (r2Valid_c w a n cap M hn hm H)
  cases hok : okM M
  · rw [hok] at HV
    rw [wb_no1 hok]
    clear hn hn2 H H2 hok
    go_enter Try.func43, Try.ntmps43
    go_wp2_with (go_at_call 64; refine HV.out.mono ?_; rintro e w1 ⟨rfl, rfl⟩)
    go_ret
    exact ⟨rfl, Below.refl _ _⟩
  · rw [hok] at HV
    obtain ⟨hM, h1, h6, hc1, hc10⟩ := okM_ok hok
    obtain ⟨b, off, ra, rc, rfl, hb, hc⟩ := rows_head H (by omega)
    have hz : (0 : Int) < (n : Int) := by omega
    have HMC := hid (million_c w a2 n2 cap2 z hn2 hm2 H2)
    obtain ⟨Bb, hBb⟩ : ∃ b, b = weighB M p z := ⟨_, rfl⟩
    rw [← hBb]
    have HNO2 := hid (fun (e : n2 ≠ n) => hBb.trans (wb_no2 (by rw [hn, hn2]; exact e)))
    have HNO3 := hid (fun (e : milB z = false) => hBb.trans (wb_no3 e))
    have HNO4 := hid (fun (e : inB p 0 ((colsM M : Int) - 1) = false) => hBb.trans (wb_no4 e))
    have HNO5 := hid (fun (j : Nat) (hj : j < colsM M) e => hBb.trans (wb_no5 hj e))
    have HYES := hid (fun (e2 : n2 = n) e3 e4 e5 => hBb.trans (wb_yes hok (by rw [hn, hn2]; exact e2) e3 e4 e5))
    have HBK := hid (fun (e2 : n2 = n) (e3 : milB z = true) => r2Back_c w (some ⟨b, off, none⟩) a2 n cap cap2 M z hn (by rw [hn2]; exact e2) H H2 hok e3)
    have HBL := hid (backF_len M (colsM M) z)
    obtain ⟨Bk, hBk⟩ : ∃ B, B = backF M (colsM M) z := ⟨_, rfl⟩
    rw [← hBk] at HBK HBL HNO5 HYES
    obtain ⟨W, hW⟩ : ∃ W, W = colsM M := ⟨_, rfl⟩
    rw [← hW] at HBK HBL HNO4 HNO5 HYES hc hc1 hc10
    have hc0 : w.cell? ⟨b, off, none⟩ = some (.slice ra W rc) := hc
    obtain ⟨Wm, hWm⟩ : ∃ q, q = (W : Int) - 1 := ⟨_, rfl⟩
    have hwm : IntKind.i64.wrap ((W : Int) - 1) = Wm := by rw [hWm]; exact IntWalk.i64_in _ (by omega)
    have HWI := hid (fun X => r3within_c p 0 Wm X)
    rw [← hWm] at HNO4 HYES
    obtain ⟨bi, hbi⟩ : ∃ q, q = inB p 0 Wm := ⟨_, rfl⟩
    rw [← hbi] at HWI HNO4 HYES
    have HBI := hid hbi
    obtain ⟨mz, hmz⟩ : ∃ q, q = milB z := ⟨_, rfl⟩
    rw [← hmz] at HMC HNO3 HYES HBK
    have HWM := hid hWm
    clear hn hn2 H H2 hok hM hBk hW hBb hc hbi hmz hb h1 h6 hWm
    go_enter Try.func43, Try.ntmps43
    go_wp2_with (first | (go_at_call 64; refine HV.out.mono ?_; rintro e w1 ⟨rfl, rfl⟩) | (go_at_call 96; refine (HWI.out _).mono ?_; rintro e w1 ⟨rfl, rfl⟩; refine Stop.of ?_))
    refine Stop.go ?_
    cases bi
    · obtain rfl : Bb = false := HNO4.out rfl
      go_wp2
      go_ret
      exact ⟨rfl, Below.refl _ _⟩
    · by_cases hl : n2 = n
      · subst hl
        have hdl : ((n2 : Int) != (n2 : Int)) = false := by simp
        go_wp2_with (go_at_call 74; refine HMC.out.mono ?_; rintro e w1 ⟨rfl, rfl⟩; refine Stop.of ?_)
        refine Stop.go ?_
        cases mz
        · obtain rfl : Bb = false := HNO3.out rfl
          go_wp2
          go_ret
          exact ⟨rfl, Below.refl _ _⟩
        · have HB1 := hid (HBK.out (by first | trivial | rfl) (by first | trivial | rfl))
          have HY := hid (HYES.out (by first | trivial | rfl) (by first | trivial | rfl) (by first | trivial | rfl))
          clear HBK HYES HNO2 HNO3 HNO4
          go_wp2_with (go_at_call 46; refine HB1.out.mono ?_; rintro e w2 ⟨v2, rfl, ho2, hb2⟩; refine Stop.of ?_)
          refine Stop.go ?_
          obtain ⟨la, lc, rfl, hli, _⟩ := ints_of_own ho2 HBL.out
          have HLI := hid hli
          have HB2 := hid hb2
          clear ho2 hli hb2 HB1
          go_wp2
          go_loopw [46] (fun i wr => ∃ k : Nat, k ≤ W ∧ i = .int .i64 k ∧ wr = w2 ∧ Hid (∀ j, j < k → ((j : Int) = p → 0 < vec Bk j) ∧ ((j : Int) ≠ p → vec Bk j = 0))) (fun i _ => W - (intOf i).toNat)
          case atStart => exact ⟨0, Nat.zero_le _, rfl, rfl, hid (fun j h => by omega)⟩
          case round =>
            obtain ⟨k, hk, rfl, rfl, HK0⟩ := hrel
            by_cases hlt : k < W
            · obtain ⟨b6, o6, rfl, hb6, hc6⟩ := HLI.out k (by rw [HBL.out]; exact hlt)
              have hbv : Bk[k]?.getD 0 = vec Bk k := rfl
              rw [hbv] at hc6
              have HN6 := hid (fun (h : ¬ (((k : Int) = p → 0 < vec Bk k) ∧ ((k : Int) ≠ p → vec Bk k = 0))) => HNO5.out k hlt h)
              have HX6 := hid (fun (h : ((k : Int) = p → 0 < vec Bk k) ∧ ((k : Int) ≠ p → vec Bk k = 0)) => (show ∀ j, j < k + 1 → ((j : Int) = p → 0 < vec Bk j) ∧ ((j : Int) ≠ p → vec Bk j = 0) from fun j hj => by
                rcases Nat.lt_or_ge j k with h1 | h1
                · exact HK0.out j h1
                · have : j = k := by omega
                  subst this; exact h))
              obtain ⟨y, hy⟩ : ∃ x, x = vec Bk k := ⟨_, rfl⟩
              rw [← hy] at hc6 HN6 HX6
              clear hbv hy hb6
              by_cases hkq : (k : Int) = p
              · have hkb : ((k : Int) == p) = true := by simpa using hkq
                have hkb2 : ((k : Int) != p) = false := by simpa using hkq
                by_cases hy0 : y ≤ 0
                · obtain rfl : Bb = false := HN6.out fun h => by have := h.1 hkq; omega
                  clear HN6 HX6 hkq
                  go_wp2
                  go_ret
                  exact ⟨rfl, HB2.out⟩
                · have HX := hid (HX6.out ⟨fun _ => by omega, fun h => absurd hkq h⟩)
                  clear HN6 HX6 hkq
                  go_wp2
                  exact ⟨⟨k + 1, by omega, by go_num, by first | trivial | rfl, HX⟩, by simp [intOf]; omega⟩
              · have hkb : ((k : Int) == p) = false := by simpa using hkq
                have hkb2 : ((k : Int) != p) = true := by simpa using hkq
                by_cases hy0 : y = 0
                · have HX := hid (HX6.out ⟨fun h => absurd h hkq, fun _ => hy0⟩)
                  subst hy0
                  clear HN6 HX6 hkq
                  go_wp2
                  exact ⟨⟨k + 1, by omega, by go_num, by first | trivial | rfl, HX⟩, by simp [intOf]; omega⟩
                · have hyb : (y != 0) = true := by simpa using hy0
                  obtain rfl : Bb = false := HN6.out fun h => hy0 (h.2 hkq)
                  clear HN6 HX6 hkq
                  go_wp2
                  go_ret
                  exact ⟨rfl, HB2.out⟩
            · obtain rfl : W = k := by omega
              obtain rfl : Bb = true := HY.out fun j hj => HK0.out j hj
              go_wp2
              go_ret
              exact ⟨rfl, HB2.out⟩
      · obtain rfl : Bb = false := HNO2.out hl
        have hdl : ((n2 : Int) != (n : Int)) = true := by simp; omega
        go_wp2
        go_ret
        exact ⟨rfl, Below.refl _ _⟩

theorem sm_swap (m : Nat → Nat → Int) (x z : Nat → Int) (n : Nat) : ∀ k, sm (fun i => z i * sm (fun j => m i j * x j) n) k = sm (fun j => sm (fun i => m i j * z i) k * x j) n
  | 0 => by
    show 0 = _
    rw [← sm_zero n]
    exact sm_congr fun j _ => by show (0 : Int) = 0 * x j; simp
  | k + 1 => by
    show sm (fun i => z i * sm (fun j => m i j * x j) n) k + z k * sm (fun j => m k j * x j) n = _
    rw [sm_swap m x z n k, ← sm_mul, ← sm_add]
    refine sm_congr fun j _ => ?_
    show sm (fun i => m i j * z i) k * x j + z k * (m k j * x j) = (sm (fun i => m i j * z i) k + m k j * z k) * x j
    grind
theorem vec_map_list {α : Type} (f : α → Int) (l : List α) {i : Nat} (hi : i < l.length) : vec (l.map f) i = f l[i] := by
  unfold vec; rw [List.getElem?_map, List.getElem?_eq_getElem hi]; rfl
/-- what a weight tells -/
theorem weigh_tells {M : Mask} {p : Int} {z x : List Int} (h : weighB M p z = true) (hx : okShown M x = true) : ∃ q : Nat, p = (q : Int) ∧ q < colsM M ∧ dotV z (readV M x) = vec (backF M (colsM M) z) q * vec x q := by
  unfold weighB at h
  simp only [Bool.and_eq_true, decide_eq_true_eq] at h
  obtain ⟨h1, h2, h3, h4, h5⟩ := h
  unfold inB at h4
  simp only [Bool.and_eq_true, decide_eq_true_eq] at h4
  obtain ⟨hM, m1, m6, hc1, hc10⟩ := okM_ok h1
  unfold okShown at hx
  simp only [Bool.and_eq_true, decide_eq_true_eq] at hx
  refine ⟨p.toNat, by omega, by omega, ?_⟩
  have e1 : dotV z (readV M x) = sm (fun i => vec z i * sm (fun j => rowv M i j * vec x j) (colsM M)) M.length := by
    unfold dotV
    rw [h2]
    refine sm_congr fun i hi => ?_
    congr 1
    unfold readV
    rw [vec_map_list _ _ hi]
    unfold dotV rowv
    rw [hM.wid _ (List.getElem_mem hi), List.getElem?_eq_getElem hi]
    rfl
  rw [e1, sm_swap (fun i j => rowv M i j) (vec x) (vec z) (colsM M) M.length]
  have e2 : ∀ j, j < colsM M → sm (fun i => rowv M i j * vec z i) M.length = vec (backF M (colsM M) z) j := fun j hj => by
    unfold backF
    rw [vec_map_list _ _ (by simpa using hj)]
    simp only [List.getElem_range]
    unfold dotV
    rw [colV_len]
    refine sm_congr fun i hi => ?_
    congr 1
    unfold colV rowv
    rw [vec_map_list _ _ hi, List.getElem?_eq_getElem hi]
    rfl
  have hq : p.toNat < colsM M := by omega
  rw [sm_single (q := p.toNat) hq (fun j hj hne => by
    rw [e2 j hj, (h5 j hj).2 (by omega)]; simp), e2 _ hq]
theorem readV_bnd {M : Mask} {x : List Int} (hM : MaskOk M (colsM M)) (hc : colsM M ≤ 10) (hx : milB x = true) : BndL 67108864 (readV M x) := by
  intro y hy
  obtain ⟨r, hr, rfl⟩ := List.mem_map.1 hy
  have hl := hM.wid r hr
  have key : ∀ k : Nat, (sm (fun c => vec r c * vec x c) k).natAbs ≤ k * 1000000 := by
    intro k
    induction k with
    | zero => simp [sm]
    | succ k ih =>
      have h1 := hM.one r hr k
      have h2 := vec_mem (P := fun q => -1000000 ≤ q ∧ q ≤ 1000000) (by decide) (mil_le hx) k
      have h4 : (vec r k * vec x k).natAbs ≤ 1 * 1000000 := by rw [Int.natAbs_mul]; exact Nat.mul_le_mul (by omega) (by omega)
      show (sm (fun c => vec r c * vec x c) k + vec r k * vec x k).natAbs ≤ _
      omega
  have := key r.length
  have h3 : r.length * 1000000 ≤ 10 * 1000000 := Nat.mul_le_mul_right _ (by omega)
  show -((67108864 : Nat) : Int) ≤ dotV r x ∧ dotV r x ≤ ((67108864 : Nat) : Int)
  unfold dotV
  omega
theorem backF_bnd {M : Mask} {z : List Int} (hM : MaskOk M (colsM M)) (h6 : M.length ≤ 6) (hz : milB z = true) (q : Nat) : -6000000 ≤ vec (backF M (colsM M) z) q ∧ vec (backF M (colsM M) z) q ≤ 6000000 := by
  refine vec_mem (P := fun y => -6000000 ≤ y ∧ y ≤ 6000000) (by decide) (fun y hy => ?_) q
  obtain ⟨j, _, rfl⟩ := List.mem_map.1 hy
  have key : ∀ k : Nat, (sm (fun c => vec (colV M j) c * vec z c) k).natAbs ≤ k * 1000000 := by
    intro k
    induction k with
    | zero => simp [sm]
    | succ k ih =>
      have h1 : -1 ≤ vec (colV M j) k ∧ vec (colV M j) k ≤ 1 := vec_mem (P := fun q => -1 ≤ q ∧ q ≤ 1) (by decide) (fun y hy => by
        obtain ⟨r, hr, rfl⟩ := List.mem_map.1 hy
        exact hM.one r hr j) k
      have h2 := vec_mem (P := fun q => -1000000 ≤ q ∧ q ≤ 1000000) (by decide) (mil_le hz) k
      have h4 : (vec (colV M j) k * vec z k).natAbs ≤ 1 * 1000000 := by rw [Int.natAbs_mul]; exact Nat.mul_le_mul (by omega) (by omega)
      show (sm (fun c => vec (colV M j) c * vec z c) k + vec (colV M j) k * vec z k).natAbs ≤ _
      omega
  have := key (colV M j).length
  rw [colV_len] at this
  have h3 : M.length * 1000000 ≤ 6 * 1000000 := Nat.mul_le_mul_right _ h6
  unfold dotV
  rw [colV_len]
  omega
end Go.Proofs.Ytfipebkhomppmaa

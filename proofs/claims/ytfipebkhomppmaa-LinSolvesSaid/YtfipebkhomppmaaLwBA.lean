/- Walks: Ascending (reference 02), Named, Free, Independent, reading (reference 03); Check (package part). -/
import Derived.Test.YtfipebkhomppmaaLwAI
namespace Go.Proofs.Ytfipebkhomppmaa
open Go.RowKit
set_option linter.unusedVariables false

theorem r2Ascending_c (w : World) (a : Option Addr) (n cap : Nat) (l : List Int) (hn : l.length = n) (hm : n ≤ maxLen) (H : IntsAt w a l) :
    Calls Try.prog 137 #[.slice a n cap] w fun e w' => e = .returned (.bool (ascB l)) ∧ ∃ k, w' = w.drewN k := by
  have HN := hid hn
  have HH := hid H
  obtain ⟨E, hE⟩ : ∃ E, E = ascB l := ⟨_, rfl⟩
  rw [← hE]
  have HE := hid hE
  clear hn H hE
  have hm' : n ≤ 9223372036854775807 := by unfold maxLen at hm; omega
  go_enter Try.func137, Try.ntmps137
  go_wp2
  go_loopw [3] (fun i wr => ∃ k : Nat, 1 ≤ k ∧ (k ≤ n ∨ k = 1) ∧ i = .int .i64 k ∧ (∃ q, wr = w.drewN q) ∧ Hid (∀ i, i + 1 < k → l[i]?.getD 0 < l[i + 1]?.getD 0)) (fun i _ => n - (intOf i).toNat)
  case atStart => exact ⟨1, Nat.le_refl _, .inr rfl, rfl, ⟨0, rfl⟩, hid (fun i h => by omega)⟩
  case round =>
    obtain ⟨k, hk1, hk, rfl, ⟨q, rfl⟩, HNO⟩ := hrel
    by_cases hlt : k < n
    · obtain ⟨p, rfl⟩ : ∃ p, k = p + 1 := ⟨k - 1, by omega⟩
      obtain ⟨b, off, rfl, hbs, hc⟩ := HH.out (p + 1) (by rw [HN.out]; exact hlt)
      obtain ⟨b', off', e', _, hc2⟩ := HH.out p (by rw [HN.out]; omega)
      cases e'
      have hpi : ((p + 1 : Nat) : Int) - 1 = (p : Int) := by omega
      have hpn : (p : Int) < (n : Int) := by omega
      have HNO2 := hid (fun (h : ¬ l[p]?.getD 0 < l[p + 1]?.getD 0) => asc_no (by rw [HN.out]; exact hlt) h)
      have HNX := hid (fun (h : l[p]?.getD 0 < l[p + 1]?.getD 0) => (show ∀ i, i + 1 < p + 1 + 1 → l[i]?.getD 0 < l[i + 1]?.getD 0 from fun i hi => by
        rcases Nat.lt_or_ge i p with h1 | h1
        · exact HNO.out i (by omega)
        · have : i = p := by omega
          subst this; exact h))
      obtain ⟨x, hx⟩ : ∃ x, x = l[p + 1]?.getD 0 := ⟨_, rfl⟩
      obtain ⟨y, hy⟩ : ∃ x, x = l[p]?.getD 0 := ⟨_, rfl⟩
      rw [← hx] at hc HNO2 HNX
      rw [← hy] at hc2 HNO2 HNX
      clear hx hy
      by_cases hle : x ≤ y
      · have HA := hid (HNO2.out (by omega))
        obtain rfl : E = false := HE.out.trans HA.out
        clear HNO2 HNX
        go_wp2
        go_quiet (fail)
        go_wp2
        go_ret
        exact ⟨rfl, _, drewN_add _ _ _⟩
      · have HX := hid (HNX.out (by omega))
        clear HNO2 HNX
        go_wp2
        go_quiet (fail)
        go_wp2
        exact ⟨⟨p + 1 + 1, by omega, .inl (by omega), by go_num, ⟨_, rfl⟩, HX⟩, by simp [intOf]; omega⟩
    · obtain rfl : E = true := HE.out.trans (asc_yes fun i hi => HNO.out i (by have := HN.out; omega))
      go_wp2
      go_ret
      exact ⟨rfl, _, rfl⟩

set_option maxHeartbeats 1000000 in
theorem r3Named_c (w : World) (a a2 : Option Addr) (n cap n2 cap2 : Nat) (M : Mask) (l : List Int) (hn : M.length = n) (hn2 : l.length = n2) (hm2 : n2 ≤ maxLen) (H : RowsAt w a M) (H2 : IntsAt w a2 l) (hok : okM M = true) :
    Calls Try.prog 88 #[.slice a n cap, .slice a2 n2 cap2] w fun e w' => e = .returned (.int .i64 (namedE (colsM M) l)) ∧ ∃ k, w' = w.drewN k := by
  obtain ⟨hM, h1, h6, hc1, hc10⟩ := okM_ok hok
  obtain ⟨b, off, ra, rc, rfl, hb, hc⟩ := rows_head H (by omega)
  have hz : (0 : Int) < (n : Int) := by omega
  have HAS := hid (r2Ascending_c w a2 n2 cap2 l hn2 hm2 H2)
  obtain ⟨W, hW⟩ : ∃ W, W = colsM M := ⟨_, rfl⟩
  rw [← hW] at hc hc1 hc10 ⊢
  have hc0 : w.cell? ⟨b, off, none⟩ = some (.slice ra W rc) := hc
  obtain ⟨E, hE⟩ : ∃ E, E = namedE W l := ⟨_, rfl⟩
  rw [← hE]
  have HE := hid hE
  have HN2 := hid hn2
  have HII := hid H2
  obtain ⟨Wm, hWm⟩ : ∃ q, q = (W : Int) - 1 := ⟨_, rfl⟩
  have hwm : IntKind.i64.wrap ((W : Int) - 1) = Wm := by rw [hWm]; exact IntWalk.i64_in _ (by omega)
  have HWM := hid hWm
  have hm' : n2 ≤ 9223372036854775807 := by unfold maxLen at hm2; omega
  clear hn hn2 H H2 hok hM hW hc hE hWm h1 h6
  go_enter Try.func88, Try.ntmps88
  cases has : ascB l
  · rw [has] at HAS
    obtain rfl : E = 7 := by rw [HE.out]; unfold namedE; rw [has]; rfl
    clear has
    go_wp2_with (go_at_call 137; refine HAS.out.mono ?_; rintro e w1 ⟨rfl, k1, rfl⟩)
    go_ret
    exact ⟨rfl, k1, rfl⟩
  · rw [has] at HAS
    have HEE := hid (show E = if l.all (fun p => inB p 0 Wm) = true then 0 else 5 by rw [HE.out, HWM.out]; unfold namedE; rw [if_pos has])
    clear has
    go_wp2_with (go_at_call 137; refine HAS.out.mono ?_; rintro e w1 ⟨rfl, k1, rfl⟩; refine Stop.of ?_)
    refine Stop.go ?_
    go_wp2
    go_loopw [12] (fun i wr => ∃ k : Nat, k ≤ n2 ∧ i = .int .i64 k ∧ (∃ q, wr = w.drewN q) ∧ Hid (∀ j (hj : j < l.length), j < k → inB l[j] 0 Wm = true)) (fun i _ => n2 - (intOf i).toNat)
    case atStart => exact ⟨0, Nat.zero_le _, rfl, ⟨k1, rfl⟩, hid (fun j _ h => by omega)⟩
    case round =>
      obtain ⟨k, hk, rfl, ⟨q, rfl⟩, HNO⟩ := hrel
      by_cases hlt : k < n2
      · have hkl : k < l.length := by rw [HN2.out]; exact hlt
        obtain ⟨b5, o5, rfl, hbs, hc5⟩ := HII.out k hkl
        have hg : l[k]?.getD 0 = l[k] := by rw [List.getElem?_eq_getElem hkl]; rfl
        rw [hg] at hc5
        have HST := hid (fun (h : inB l[k] 0 Wm = false) => (all_stop (p := fun n : Int => inB n 0 Wm) hkl h))
        have HNX := hid (fun (h : inB l[k] 0 Wm = true) => (show ∀ j (hj : j < l.length), j < k + 1 → inB l[j] 0 Wm = true from fun j hj hlt => by
          rcases Nat.lt_or_ge j k with h1 | h1
          · exact HNO.out j hj h1
          · have : j = k := by omega
            subst this; exact h))
        obtain ⟨x, hx⟩ : ∃ x, x = l[k] := ⟨_, rfl⟩
        rw [← hx] at hc5 HST HNX
        obtain ⟨B, hB⟩ : ∃ B, B = inB x 0 Wm := ⟨_, rfl⟩
        have HW := hid (fun (W : World) => r3within_c x 0 Wm W)
        rw [← hB] at HW HST HNX
        clear hg hx hkl hB
        cases B
        · obtain rfl : E = 5 := by rw [HEE.out, HST.out rfl]; rfl
          clear HST HNX
          go_wp2_with (go_at_call 96; refine (HW.out _).mono ?_; rintro e w1 ⟨rfl, rfl⟩)
          go_ret
          exact ⟨rfl, _, rfl⟩
        · have HX := hid (HNX.out rfl)
          clear HST HNX
          go_wp2_with (go_at_call 96; refine (HW.out _).mono ?_; rintro e w1 ⟨rfl, rfl⟩)
          exact ⟨⟨k + 1, by omega, by go_num, ⟨q, rfl⟩, HX⟩, by simp [intOf]; omega⟩
      · obtain rfl : E = 0 := by
          rw [HEE.out, all_done (p := fun n : Int => inB n 0 Wm) (fun j hj => HNO.out j hj (by have := HN2.out; omega))]; rfl
        go_wp2
        go_ret
        exact ⟨rfl, _, rfl⟩

set_option maxHeartbeats 1000000 in
theorem r3Free_c (w : World) (a a2 : Option Addr) (n cap n2 cap2 : Nat) (M : Mask) (l : List Int) (hn : M.length = n) (hn2 : l.length = n2) (H : RowsAt w a M) (H2 : IntsAt w a2 l) (hok : okM M = true) (hso : SetOk (colsM M) l) :
    Calls Try.prog 89 #[.slice a n cap, .slice a2 n2 cap2] w fun e w' => e = .returned (.bool (decide (rankF (colsF M l) l.length = l.length))) ∧ Below w.heap.size w w' := by
  obtain ⟨hM, h1, h6, hc1, hc10⟩ := okM_ok hok
  have hl10 := set_le hso
  have hn210 : n2 ≤ 10 := by omega
  have hC := hM.cols l
  have hS : ∀ r ∈ M, ∀ j ∈ l, 0 ≤ j ∧ j < r.length := fun r hr j hj => by rw [hM.wid r hr]; exact hso.2 j hj
  have HC := hid (r3columns_c w a n cap M hn (by omega) H a2 n2 cap2 l hn2 (by omega) H2 hS)
  have hcl : (colsF M l).length = n := by rw [colsF_len]; exact hn
  have HCL := hid hcl
  have HCW := hid (fun r hr => colsF_wid M l r hr)
  have hB := refB hC
  have HRd := hid (fun (X : World) (a3 : Option Addr) (c3 : Nat) (hR : RowsAt X a3 (colsF M l)) => r3reduced_c X a3 n c3 (colsF M l) l.length hcl (by omega) hR hC.wid (by omega) (fun r hr => mem_vec (P := fun x => -((4611686018427387904 : Nat) : Int) ≤ x ∧ x ≤ ((4611686018427387904 : Nat) : Int)) fun c => by have := hC.one r hr c; omega)
    (fun t ht r hr => ⟨(hB t ht r hr).1, fun x hx => by have := (hB t ht r hr).2 x hx; omega⟩) (fun t => by rw [(ref_lens hC.wid t).1, hcl]) (fun t => (ref_lens hC.wid t).2))
  have he : (rRed (colsF M l) l.length).piv.length = rankF (colsF M l) l.length := by
    obtain ⟨e1, _⟩ := red_same (n := l.length) hC.wid (fun r hr c _ => hC.one r hr c) (Nat.le_refl l.length) (fun q _ _ c h1 h2 => by omega)
    unfold rankF; rw [e1]
  rw [he] at HRd
  rw [hn2] at HRd HCW ⊢
  have hrle : rankF (colsF M l) n2 ≤ 6 := Nat.le_trans (rank_le (by rw [← hn2]; exact hC)) (by omega)
  obtain ⟨rk, hrk⟩ : ∃ rk, rk = rankF (colsF M l) n2 := ⟨_, rfl⟩
  rw [← hrk] at HRd hrle ⊢
  have hdd : decide (rk = n2) = ((rk : Int) == (n2 : Int)) := by
    by_cases h : rk = n2
    · simp [h]
    · rw [decide_eq_false h]; symm; simp; omega
  obtain ⟨C, hCe⟩ : ∃ C, C = colsF M l := ⟨_, rfl⟩
  rw [← hCe] at HC HCL HCW HRd
  rw [hdd]
  obtain ⟨B, hBe⟩ : ∃ B, B = ((rk : Int) == (n2 : Int)) := ⟨_, rfl⟩
  have HBE := hid hBe
  rw [← hBe]
  clear hn hn2 H H2 hok hso hM hC hS hcl hB he hrk hdd hCe hBe h1 h6
  go_enter Try.func89, Try.ntmps89
  go_wp2_with (go_at_call 67; refine HC.out.mono ?_; rintro e w1 ⟨v1, rfl, hT1, hb1⟩; refine Stop.of ?_)
  refine Stop.go ?_
  obtain ⟨ca, cc, rfl⟩ : ∃ a c, v1 = .slice a n c := by
    obtain ⟨_, ho1, _⟩ := hT1
    obtain ⟨a', c', e⟩ := ownsRow_slice ho1
    exact ⟨a', c', by rw [e, HCL.out]⟩
  have HR1 := hid (HRd.out w1 ca cc (hT1.rows HCL.out (fun r hr => by rw [HCW.out r hr]; unfold maxLen; omega)))
  clear hT1 HRd
  go_wp2_with (go_at_call 87; refine HR1.out.mono ?_; rintro e w2 ⟨vD, vP, rfl, hT2, hP2, hb2⟩; refine Stop.of ?_)
  refine Stop.go ?_
  obtain ⟨pa, pc, rfl⟩ := ownsRow_slice hP2
  have hbf := chain hb1 hb2
  clear hT2 hP2
  go_wp2
  go_ret
  exact ⟨by rw [HBE.out]; rfl, hbf⟩

set_option maxHeartbeats 1000000 in
theorem r3Independent_c (w : World) (a a2 : Option Addr) (n cap n2 cap2 : Nat) (M : Mask) (l : List Int) (hn : M.length = n) (hn2 : l.length = n2) (hm : n ≤ maxLen) (hm2 : n2 ≤ maxLen) (H : RowsAt w a M) (H2 : IntsAt w a2 l) :
    Calls Try.prog 38 #[.slice a n cap, .slice a2 n2 cap2] w fun e w' => e = .returned (.tuple #[.bool (indepV M l).1, .int .i64 (indepV M l).2]) ∧ Below w.heap.size w w' := by
  have HV := hid (r2Valid_c w a n cap M hn hm H)
  cases hok : okM M
  · rw [hok] at HV
    have he : indepV M l = (false, 1) := by
      have : pixE M l = 1 := by unfold pixE; rw [hok]; rfl
      unfold indepV; rw [this]; rfl
    rw [he]
    clear hn hn2 H H2 hok he
    go_enter Try.func38, Try.ntmps38
    go_wp2_with (go_at_call 64; refine HV.out.mono ?_; rintro e w1 ⟨rfl, rfl⟩)
    go_ret2
    exact ⟨rfl, Below.refl _ _⟩
  · rw [hok] at HV
    have HNM := hid (r3Named_c w a a2 n cap n2 cap2 M l hn hn2 hm2 H H2 hok)
    have hpx : pixE M l = namedE (colsM M) l := by unfold pixE; rw [if_pos hok]
    rw [← hpx] at HNM
    by_cases hp : pixE M l = 0
    · have he : indepV M l = (decide (rankF (colsF M l) l.length = l.length), 0) := by unfold indepV; rw [if_pos hp]
      rw [he]
      simp only []
      rw [hp] at HNM
      have HFR := hid (fun (X : World) (hX : Below w.heap.size w X) => r3Free_c X a a2 n cap n2 cap2 M l hn hn2 (H.below hX) (H2.below hX) hok (pix_ok hp).2)
      obtain ⟨B, hB⟩ : ∃ B, B = decide (rankF (colsF M l) l.length = l.length) := ⟨_, rfl⟩
      rw [← hB] at HFR ⊢
      clear hn hn2 H H2 hok he hp hpx hB
      go_enter Try.func38, Try.ntmps38
      go_wp2_with (go_at_call 64; refine HV.out.mono ?_; rintro e w1 ⟨rfl, rfl⟩; refine Stop.of ?_)
      refine Stop.go ?_
      go_wp2_with (go_at_call 88; refine HNM.out.mono ?_; rintro e w2 ⟨rfl, k2, rfl⟩; refine Stop.of ?_)
      refine Stop.go ?_
      have hb2 := below_drewN (Below.refl w.heap.size w) k2
      go_wp2_with (go_at_call 89; refine (HFR.out _ hb2).mono ?_; rintro e w3 ⟨rfl, hb3⟩)
      go_ret2
      exact ⟨rfl, chain hb2 hb3⟩
    · have he : indepV M l = (false, pixE M l) := by unfold indepV; rw [if_neg hp]
      rw [he]
      simp only []
      obtain ⟨E, hE⟩ : ∃ E, E = pixE M l := ⟨_, rfl⟩
      rw [← hE] at HNM hp ⊢
      have hpb : (E != 0) = true := by simpa using hp
      clear hn hn2 H H2 he hE hpx hok
      go_enter Try.func38, Try.ntmps38
      go_wp2_with (go_at_call 64; refine HV.out.mono ?_; rintro e w1 ⟨rfl, rfl⟩; refine Stop.of ?_)
      refine Stop.go ?_
      go_wp2_with (go_at_call 88; refine HNM.out.mono ?_; rintro e w2 ⟨rfl, k2, rfl⟩)
      go_ret2
      exact ⟨rfl, below_drewN (Below.refl _ _) _⟩
end Go.Proofs.Ytfipebkhomppmaa

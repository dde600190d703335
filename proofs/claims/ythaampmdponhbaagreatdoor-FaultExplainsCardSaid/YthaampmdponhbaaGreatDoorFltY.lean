/- Walks of the reference: SameFaults, All, Faulty, Reads, One. -/
import Derived.Test.YthaampmdponhbaaGreatDoorFltX
namespace Go.Proofs.YthaampmdponhbaaGreatDoor
open Go.RowKit
set_option linter.unusedVariables false

theorem sameFaults_c (w : World) (a a2 : Option Addr) (n cap n2 cap2 : Nat) (l l2 : List Flt) (hn : l.length = n) (hn2 : l2.length = n2) (hm : n ≤ maxLen) (hm2 : n2 ≤ maxLen) (H : FltsAt w a l) (H2 : FltsAt w a2 l2) :
    Calls Tryz.prog 15 #[.slice a n cap, .slice a2 n2 cap2] w fun e w' => e = .returned (.bool (decide (l = l2))) ∧ ∃ k, w' = w.drewN k := by
  have HN := hid hn
  have HN2 := hid hn2
  have HH := hid H
  have HH2 := hid H2
  clear hn hn2 H H2
  unfold maxLen at hm hm2
  by_cases hl : n = n2
  · have hd : ((n : Int) != (n2 : Int)) = false := by simp [hl]
    have HL := hid hl
    clear hl
    go_enter Tryz.func15, Tryz.ntmps15
    go_wp2
    go_loopw [13] (fun i wr => ∃ k : Nat, k ≤ n ∧ i = .int .i64 k ∧ (∃ q, wr = w.drewN q) ∧ ∀ j (hj : j < l.length) (hj2 : j < l2.length), j < k → l[j] = l2[j]) (fun i _ => n - (intOf i).toNat)
    case atStart => exact ⟨0, Nat.zero_le _, rfl, ⟨0, rfl⟩, fun i _ _ h => by omega⟩
    case round =>
      obtain ⟨k, hk, rfl, ⟨q, rfl⟩, hno⟩ := hrel
      have HNO := hid hno
      clear hno
      by_cases hlt : k < n
      · have hkl : k < l.length := by rw [HN.out]; exact hlt
        have hkl2 : k < l2.length := by rw [HN2.out, ← HL.out]; exact hlt
        obtain ⟨b, off, rfl, hbs, hc0, hc1, hc2⟩ := HH.out k hkl
        obtain ⟨b2, off2, rfl, hbs2, hd0, hd1, hd2⟩ := HH2.out k hkl2
        have hlt2 : k < n2 := by have := HL.out; omega
        have HKL := hid hkl
        have HKL2 := hid hkl2
        by_cases he : l[k] = l2[k]
        · have HE := hid he
          obtain ⟨x, hx⟩ : ∃ x, x = l[k]'hkl := ⟨_, rfl⟩
          obtain ⟨y, hy⟩ : ∃ y, y = l2[k]'hkl2 := ⟨_, rfl⟩
          have hxy : x = y := hx.trans (he.trans hy.symm)
          rw [← hx] at hc0 hc1 hc2
          rw [← hy] at hd0 hd1 hd2
          rw [← hxy] at hd0 hd1 hd2
          clear he hx hy hxy
          obtain ⟨x1, x2, x3⟩ := x
          simp only [] at hc0 hc1 hc2 hd0 hd1 hd2
          go_wp2
          go_quiet (fail)
          go_wp2
          refine ⟨⟨k + 1, by omega, by go_num, ⟨_, rfl⟩, fun j hj hj2 hjk => ?_⟩, by simp [intOf]; omega⟩
          by_cases e : j = k
          · subst e; exact HE.out
          · exact HNO.out j hj hj2 (by omega)
        · have HE := hid he
          obtain ⟨x, hx⟩ : ∃ x, x = l[k]'hkl := ⟨_, rfl⟩
          obtain ⟨y, hy⟩ : ∃ y, y = l2[k]'hkl2 := ⟨_, rfl⟩
          have hxy : x ≠ y := fun e => he (hx.symm.trans (e.trans hy))
          rw [← hx] at hc0 hc1 hc2
          rw [← hy] at hd0 hd1 hd2
          clear he hx hy
          obtain ⟨x1, x2, x3⟩ := x
          obtain ⟨y1, y2, y3⟩ := y
          simp only [] at hc0 hc1 hc2 hd0 hd1 hd2
          have hcase : ((x1 == y1) = false) ∨ (x1 = y1 ∧ (x2 == y2) = false) ∨ (x1 = y1 ∧ x2 = y2 ∧ (x3 == y3) = false) := by
            by_cases e1 : x1 = y1
            · by_cases e2 : x2 = y2
              · by_cases e3 : x3 = y3
                · exact absurd (by rw [e1, e2, e3]) hxy
                · exact .inr (.inr ⟨e1, e2, by simpa using e3⟩)
              · exact .inr (.inl ⟨e1, by simpa using e2⟩)
            · exact .inl (by simpa using e1)
          clear hxy
          rcases hcase with h | ⟨rfl, h⟩ | ⟨rfl, rfl, h⟩
          all_goals
            go_wp2
            go_quiet (fail)
            go_wp2
            go_ret
            refine ⟨ret_bool ?_, q + nq, drewN_add _ _ _⟩
            symm
            rw [decide_eq_false_iff_not]
            rintro rfl
            exact HE.out rfl
      · go_wp2
        go_ret
        refine ⟨ret_bool ?_, _, rfl⟩
        symm
        rw [decide_eq_true_iff]
        have h1 := HN.out
        have h2 := HN2.out
        have h3 := HL.out
        exact List.ext_getElem (by omega) fun i g1 g2 => HNO.out i g1 g2 (by omega)
  · have hd : ((n : Int) != (n2 : Int)) = true := by simp; omega
    have HL := hid hl
    clear hl
    go_enter Tryz.func15, Tryz.ntmps15
    go_wp2
    go_ret
    refine ⟨ret_bool ?_, 0, rfl⟩
    symm
    rw [decide_eq_false_iff_not]
    rintro rfl
    exact HL.out (HN.out.symm.trans HN2.out)
end Go.Proofs.YthaampmdponhbaaGreatDoor

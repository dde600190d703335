/- Walks: Circuit and Spark of the reference; the law's Light. -/
import Derived.Test.YtfipebkhomppmaaLwAF
import Derived.Test.YtfipebkhomppmaaLwAD
namespace Go.Proofs.Ytfipebkhomppmaa
open Go.RowKit
set_option linter.unusedVariables false

set_option maxHeartbeats 1000000 in
theorem r3Circuit_c (w : World) (a : Option Addr) (n cap : Nat) (M : Mask) (hn : M.length = n) (hm : n ≤ maxLen) (H : RowsAt w a M) :
    Calls Try.prog 20 #[.slice a n cap] w fun e w' => Below w.heap.size w w' ∧ CircRes (circV M) e w' := by
  have HC := hid (r3Circuits_c w a n cap M hn hm H)
  cases hok : okM M
  · rw [circV_no hok]
    rw [hok] at HC
    clear hn H hok
    go_enter Try.func20, Try.ntmps20
    go_wp2_with (go_at_call 16; refine HC.out.mono ?_; rintro e w1 ⟨v, base, hbs, hb1, ⟨_, rfl⟩ | ⟨h, _⟩⟩; rotate_left; cases h)
    go_ret2
    exact ⟨hb1, CircRes.nil _ _⟩
  · rw [hok] at HC
    have hrl : ∀ r ∈ circP M (colsM M), r.length ≤ maxLen := fun r hr => by
      obtain ⟨hM, h1, h6, hc1, hc10⟩ := okM_ok hok
      unfold circP at hr
      obtain ⟨k, hk, hr⟩ := List.mem_flatMap.1 hr
      obtain ⟨S, hS, hc⟩ := List.mem_filterMap.1 hr
      have hne : S ≠ [] := fun e => by have := comb_len _ _ _ S hS; rw [e] at this; simp at this
      have := (circ_facts hM (comb_ok hS) hne hc).1
      unfold maxLen; omega
    cases hc : circP M (colsM M) with
    | nil =>
      rw [circV_none hok hc]
      rw [hc] at HC
      clear hn H hok hc hrl
      go_enter Try.func20, Try.ntmps20
      go_wp2_with (go_at_call 16; refine HC.out.mono ?_; rintro e w1 ⟨v, base, hbs, hb1, ⟨h, _⟩ | ⟨_, rfl, hT⟩⟩; cases h; refine Stop.of ?_)
      refine Stop.go ?_
      obtain ⟨b, cap2, rfl⟩ : ∃ a c, v = .slice a 0 c := by
        obtain ⟨_, ho1, _⟩ := hT
        exact ownsRow_slice ho1
      go_wp2
      go_ret2
      exact ⟨hb1, CircRes.nil _ _⟩
    | cons c t =>
      rw [circV_cons hok hc]
      rw [hc] at HC hrl
      clear hn H hok hc
      go_enter Try.func20, Try.ntmps20
      go_wp2_with (go_at_call 16; refine HC.out.mono ?_; rintro e w1 ⟨v, base, hbs, hb1, ⟨h, _⟩ | ⟨_, rfl, hT⟩⟩; cases h; refine Stop.of ?_)
      refine Stop.go ?_
      obtain ⟨ln, hln⟩ : ∃ ln, ln = (c :: t).length := ⟨_, rfl⟩
      obtain ⟨b, cap2, rfl⟩ : ∃ a c, v = .slice a ln c := by
        obtain ⟨_, ho1, _⟩ := hT
        obtain ⟨a', c', e⟩ := ownsRow_slice ho1
        exact ⟨a', c', by rw [e, hln]⟩
      obtain ⟨b0, off, ra, rn, rc, rfl, hbs0, hq0, hrn, hrm, hri⟩ := hT.rows hln.symm hrl 0 (by simp)
      simp only [List.getElem_cons_zero, Nat.add_zero] at hq0 hrn hri
      have hl0 : 0 < ln := by rw [hln]; simp
      have hi0 : (0 : Int) < (ln : Int) := by omega
      have hz0 : ((ln : Int) == 0) = false := by simp; omega
      have HRI := hid hri
      clear hln hT hri hrl
      go_wp2
      go_ret2
      exact ⟨hb1, ra, rn, rc, rfl, hrn, hrm, HRI.out⟩
theorem circV_err {M : Mask} (h : (circV M).2 ≠ 0) : (circV M).1 = [] := by
  unfold circV at h ⊢
  split
  · rename_i h1
    rw [if_pos h1] at h
    cases hc : circP M (colsM M) with
    | nil => rfl
    | cons c t => rw [hc] at h; simp at h
  · rfl

set_option maxHeartbeats 1000000 in
theorem r3Spark_c (w : World) (a : Option Addr) (n cap : Nat) (M : Mask) (hn : M.length = n) (hm : n ≤ maxLen) (H : RowsAt w a M) :
    Calls Try.prog 18 #[.slice a n cap] w fun e w' => Below w.heap.size w w' ∧ e = .returned (.tuple #[.int .i64 (nzc (circV M).1), .int .i64 (circV M).2]) := by
  have HC := hid (r3Circuit_c w a n cap M hn hm H)
  have hce := circV_err (M := M)
  obtain ⟨⟨l, z⟩, hlz⟩ : ∃ p, p = circV M := ⟨_, rfl⟩
  rw [← hlz] at HC hce ⊢
  clear hn H hlz
  by_cases hz : z = 0
  · subst hz
    clear hce
    go_enter Try.func18, Try.ntmps18
    go_wp2_with (go_at_call 20; refine HC.out.mono ?_; rintro e w1 ⟨hb1, b, k, c, rfl, hlk, hkm, hI⟩; refine Stop.of ?_)
    refine Stop.go ?_
    have HI := hid hI
    have HLK := hid hlk
    have HB1 := hid hb1
    clear hI hlk hb1
    go_wp2
    go_loopw [6, 19] (fun v i wr => ∃ q : Nat, q ≤ k ∧ i = .int .i64 q ∧ v = .int .i64 (nzc (l.take q)) ∧ wr = w1) (fun _ i _ => k - (intOf i).toNat)
    case atStart => exact ⟨0, Nat.zero_le _, rfl, rfl, rfl⟩
    case round =>
      obtain ⟨q, hq, rfl, rfl, rfl⟩ := hrel
      by_cases hlt : q < k
      · have hql : q < l.length := by rw [HLK.out]; exact hlt
        obtain ⟨b0, off, rfl, hbs, hc⟩ := HI.out q hql
        have htk := nzc_take hql
        obtain ⟨x, hx⟩ : ∃ x, x = l[q]?.getD 0 := ⟨_, rfl⟩
        rw [← hx] at hc htk
        obtain ⟨m, hm'⟩ : ∃ m, m = nzc (l.take q) := ⟨_, rfl⟩
        rw [← hm'] at htk ⊢
        have hmq : m ≤ q := by rw [hm']; unfold nzc; exact Nat.le_trans List.countP_le_length (by rw [List.length_take]; omega)
        have hkm2 : k ≤ 9223372036854775807 := by unfold maxLen at hkm; omega
        have HTK := hid htk
        clear hx htk hm' hql
        by_cases h0 : x = 0
        · subst h0
          go_wp2
          exact ⟨⟨q + 1, by omega, by go_num, by rw [HTK.out]; rfl, by first | trivial | rfl⟩, by simp [intOf]; omega⟩
        · go_wp2
          exact ⟨⟨q + 1, by omega, by go_num, by rw [HTK.out, if_neg h0]; go_num, by first | trivial | rfl⟩, by simp [intOf]; omega⟩
      · obtain rfl : k = q := by omega
        have hall : l.take k = l := List.take_of_length_le (by rw [HLK.out]; exact Nat.le_refl _)
        rw [hall]
        clear hall
        go_wp2
        go_ret2
        exact ⟨HB1.out, rfl⟩
  · obtain rfl : l = [] := hce hz
    have hzb : (z != 0) = true := by simpa using hz
    clear hce
    go_enter Try.func18, Try.ntmps18
    go_wp2_with (go_at_call 20; refine HC.out.mono ?_; rintro e w1 ⟨hb1, b, k, c, rfl, hlk, hkm, hI⟩; refine Stop.of ?_)
    refine Stop.go ?_
    clear hI hlk
    go_wp2
    go_ret2
    exact ⟨hb1, rfl⟩

theorem light_c (w : World) (a : Option Addr) (n cap : Nat) (M : Mask) (hn : M.length = n) (hm : n ≤ maxLen) (H : RowsAt w a M) :
    Calls Try.prog 13 #[.slice a n cap] w fun e w' => SomeB e ∧ w = w' := by
  have HN := hid hn
  have HH := hid H
  clear hn H
  unfold maxLen at hm
  go_enter Try.func13, Try.ntmps13
  go_wp2
  go_loop [3, 8] (fun s i => ∃ k : Nat, k ≤ n ∧ i = .int .i64 k ∧ ∃ z : Int, s = .int .i64 z) (fun _ i => n - (intOf i).toNat)
  case atStart => exact ⟨0, Nat.zero_le _, rfl, _, rfl⟩
  case round =>
    obtain ⟨k, hk, rfl, z, rfl⟩ := hrel
    by_cases hlt : k < n
    · have hkl : k < M.length := by rw [HN.out]; exact hlt
      obtain ⟨b, off, ra, rn, rc, rfl, hbs, hq0, hrn, hrm, hri⟩ := HH.out k hkl
      clear hrn hri hkl hrm
      by_cases h7 : (7 : Int) < (rn : Int)
      · by_cases h10 : (rn : Int) ≤ 10
        · go_wp2
          go_ret
          exact ⟨⟨_, rfl⟩, rfl⟩
        · go_wp2
          go_round
          case rel => exact ⟨k + 1, by omega, by go_num, _, rfl⟩
          case measure => simp [intOf]; omega
      · go_wp2
        go_round
        case rel => exact ⟨k + 1, by omega, by go_num, _, rfl⟩
        case measure => simp [intOf]; omega
    · go_wp2
      go_ret
      exact ⟨⟨_, rfl⟩, rfl⟩
end Go.Proofs.Ytfipebkhomppmaa

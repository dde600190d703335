/- Walks: Circuit and Spark (package lin). -/
import Derived.Test.YtfipebkhomppmaaLwI
namespace Go.Proofs.Ytfipebkhomppmaa
open Go.RowKit
set_option linter.unusedVariables false

/-- the first circuit and the error's number -/
def circV (M : Mask) : List Int × Int := if okM M = true then (match circP M (colsM M) with | [] => ([], 8) | c :: _ => (c, 0)) else ([], 1)
theorem circV_no {M : Mask} (h : okM M = false) : circV M = ([], 1) := by unfold circV; rw [h]; rfl
theorem circV_none {M : Mask} (h : okM M = true) (hc : circP M (colsM M) = []) : circV M = ([], 8) := by unfold circV; rw [if_pos h, hc]
theorem circV_cons {M : Mask} {c : List Int} {t : List (List Int)} (h : okM M = true) (hc : circP M (colsM M) = c :: t) : circV M = (c, 0) := by unfold circV; rw [if_pos h, hc]
def nzc (l : List Int) : Nat := l.countP (fun x => decide (x ≠ 0))
theorem nzc_take {l : List Int} {k : Nat} (hk : k < l.length) : nzc (l.take (k + 1)) = nzc (l.take k) + if l[k]?.getD 0 = 0 then 0 else 1 := by
  unfold nzc
  rw [List.take_succ_eq_append_getElem hk, List.countP_append, List.getElem?_eq_getElem hk]
  simp only [List.countP_cons, List.countP_nil, Option.getD_some, Nat.zero_add]
  by_cases h : l[k] = 0 <;> simp [h]

/-- a list and an error, returned -/
def CircRes (p : List Int × Int) (e : Ending) (w : World) : Prop := ∃ b k c, e = .returned (.tuple #[.slice b k c, .int .i64 p.2]) ∧ p.1.length = k ∧ k ≤ maxLen ∧ IntsAt w b p.1
theorem CircRes.nil (z : Int) (w : World) : CircRes ([], z) (.returned (.tuple #[.slice none 0 0, .int .i64 z])) w := ⟨none, 0, 0, rfl, rfl, Nat.zero_le _, fun j hj => by simp at hj⟩

set_option maxHeartbeats 1000000 in
theorem circuit_c (w : World) (a : Option Addr) (n cap : Nat) (M : Mask) (hn : M.length = n) (hm : n ≤ maxLen) (H : RowsAt w a M) :
    Calls Try.prog 19 #[.slice a n cap] w fun e w' => Below w.heap.size w w' ∧ CircRes (circV M) e w' := by
  have HC := hid (circuits_c w a n cap M hn hm H)
  cases hok : okM M
  · rw [circV_no hok]
    rw [hok] at HC
    clear hn H hok
    go_enter Try.func19, Try.ntmps19
    go_wp2_with (go_at_call 15; refine HC.out.mono ?_; rintro e w1 ⟨v, base, hbs, hb1, ⟨_, rfl⟩ | ⟨h, _⟩⟩; rotate_left; cases h)
    go_ret2
    exact ⟨hb1, CircRes.nil _ _⟩
  · rw [hok] at HC
    cases hc : circP M (colsM M) with
    | nil =>
      rw [circV_none hok hc]
      rw [hc] at HC
      clear hn H hok hc
      go_enter Try.func19, Try.ntmps19
      go_wp2_with (go_at_call 15; refine HC.out.mono ?_; rintro e w1 ⟨v, base, hbs, hb1, ⟨h, _⟩ | ⟨_, rfl, hR⟩⟩; cases h; refine Stop.of ?_)
      refine Stop.go ?_
      obtain ⟨b, cap2, rfl, _, _, _⟩ := hR.reads
      simp only [List.length_nil]
      go_wp2
      go_ret2
      exact ⟨hb1, CircRes.nil _ _⟩
    | cons c t =>
      rw [circV_cons hok hc]
      rw [hc] at HC
      clear hn H hok hc
      go_enter Try.func19, Try.ntmps19
      go_wp2_with (go_at_call 15; refine HC.out.mono ?_; rintro e w1 ⟨v, base, hbs, hb1, ⟨h, _⟩ | ⟨_, rfl, hR⟩⟩; cases h; refine Stop.of ?_)
      refine Stop.go ?_
      obtain ⟨b, cap2, rfl, hml, hRA, _⟩ := hR.reads
      obtain ⟨b0, off, ra, rn, rc, rfl, hbs0, hq0, hrn, hrm, hri⟩ := hRA 0 (by simp)
      simp only [List.getElem_cons_zero, Nat.add_zero] at hq0 hrn hri
      obtain ⟨ln, hln⟩ : ∃ ln, ln = (c :: t).length := ⟨_, rfl⟩
      have hl0 : 0 < ln := by rw [hln]; simp
      rw [← hln]
      have hi0 : (0 : Int) < (ln : Int) := by omega
      have HRI := hid hri
      clear hln hR hRA hri
      go_wp2
      go_ret2
      exact ⟨hb1, ra, rn, rc, rfl, hrn, hrm, HRI.out⟩

set_option maxHeartbeats 1000000 in
theorem spark_c (w : World) (a : Option Addr) (n cap : Nat) (M : Mask) (hn : M.length = n) (hm : n ≤ maxLen) (H : RowsAt w a M) :
    Calls Try.prog 17 #[.slice a n cap] w fun e w' => Below w.heap.size w w' ∧ e = .returned (.tuple #[.int .i64 (nzc (circV M).1), .int .i64 (circV M).2]) := by
  have HC := hid (circuit_c w a n cap M hn hm H)
  obtain ⟨⟨l, z⟩, hlz⟩ : ∃ p, p = circV M := ⟨_, rfl⟩
  rw [← hlz] at HC ⊢
  clear hn H hlz
  simp only []
  go_enter Try.func17, Try.ntmps17
  go_wp2_with (go_at_call 19; refine HC.out.mono ?_; rintro e w1 ⟨hb1, b, k, c, rfl, hlk, hkm, hI⟩; refine Stop.of ?_)
  refine Stop.go ?_
  have HI := hid hI
  have HLK := hid hlk
  have HB1 := hid hb1
  clear hI hlk hb1
  go_wp2
  go_loopw [6, 16] (fun v i wr => ∃ q : Nat, q ≤ k ∧ i = .int .i64 q ∧ v = .int .i64 (nzc (l.take q)) ∧ wr = w1) (fun _ i _ => k - (intOf i).toNat)
  case atStart => exact ⟨0, Nat.zero_le _, rfl, rfl, rfl⟩
  case round =>
    obtain ⟨q, hq, rfl, rfl, rfl⟩ := hrel
    by_cases hlt : q < k
    · have hql : q < l.length := by rw [HLK.out]; exact hlt
      obtain ⟨b0, off, rfl, hbs, hc⟩ := HI.out q hql
      have htk := nzc_take hql
      obtain ⟨x, hx⟩ : ∃ x, x = l[q]?.getD 0 := ⟨_, rfl⟩
      rw [← hx] at hc htk
      obtain ⟨m, hm'⟩ : ∃ m, m = nzc (l.take q) := ⟨_, rfl⟩
      rw [← hm'] at htk ⊢
      have hmq : m ≤ q := by rw [hm']; unfold nzc; exact Nat.le_trans List.countP_le_length (by rw [List.length_take]; omega)
      have hkm2 : k ≤ 9223372036854775807 := by unfold maxLen at hkm; omega
      have HTK := hid htk
      clear hx htk hm' hql
      by_cases h0 : x = 0
      · subst h0
        go_wp2
        exact ⟨⟨q + 1, by omega, by go_num, by rw [HTK.out]; rfl, by first | trivial | rfl⟩, by simp [intOf]; omega⟩
      · go_wp2
        exact ⟨⟨q + 1, by omega, by go_num, by rw [HTK.out, if_neg h0]; go_num, by first | trivial | rfl⟩, by simp [intOf]; omega⟩
    · obtain rfl : k = q := by omega
      have hall : l.take k = l := List.take_of_length_le (by rw [HLK.out]; exact Nat.le_refl _)
      rw [hall]
      clear hall
      go_wp2
      go_ret2
      exact ⟨HB1.out, rfl⟩
end Go.Proofs.Ytfipebkhomppmaa

/- Walks and plain laws for StreamSentRow, part 13. -/
import Derived.ChangeOld
import Derived.Deep.Slices
import Derived.Lib.SmallJoins
import Derived.Test.YtkmjeegnijohmaaGreatPkStreamSentRow12
namespace Go.Proofs.YtkmjeegnijohmaaGreat
open Go.RowKit
set_option linter.unusedVariables false

set_option maxHeartbeats 1000000 in
theorem r3Circuit_c (w : World) (a : Option Addr) (n cap : Nat) (M : Mask) (hn : M.length = n) (hm : n ≤ maxLen) (H : RowsAt w a M) :
    Calls Tryz.prog 60 #[.slice a n cap] w fun e w' => Below w.heap.size w w' ∧ CircRes (circV M) e w' := by
  have HC := hid (r3Circuits_c w a n cap M hn hm H)
  cases hok : okM M
  · rw [circV_no hok]
    rw [hok] at HC
    clear hn H hok
    go_enter Tryz.func60, Tryz.ntmps60
    go_wp2_with (go_at_call 82; refine HC.out.mono ?_; rintro e w1 ⟨v, base, hbs, hb1, ⟨_, rfl⟩ | ⟨h, _⟩⟩; rotate_left; cases h)
    go_ret2
    exact ⟨hb1, CircRes.nil _ _⟩
  · rw [hok] at HC
    have hrl : ∀ r ∈ circP M (colsM M), r.length ≤ maxLen := fun r hr => by
      obtain ⟨hM, h1, h6, hc1, hc10⟩ := okM_ok hok
      unfold circP at hr
      obtain ⟨k, hk, hr⟩ := List.mem_flatMap.1 hr
      obtain ⟨S, hS, hc⟩ := List.mem_filterMap.1 hr
      have hne : S ≠ [] := fun e => by have := comb_len _ _ _ S hS; rw [e] at this; simp at this
      have := (circ_facts hM (comb_ok hS) hne hc).1
      unfold maxLen; omega
    cases hc : circP M (colsM M) with
    | nil =>
      rw [circV_none hok hc]
      rw [hc] at HC
      clear hn H hok hc hrl
      go_enter Tryz.func60, Tryz.ntmps60
      go_wp2_with (go_at_call 82; refine HC.out.mono ?_; rintro e w1 ⟨v, base, hbs, hb1, ⟨h, _⟩ | ⟨_, rfl, hT⟩⟩; cases h; refine Stop.of ?_)
      refine Stop.go ?_
      obtain ⟨b, cap2, rfl⟩ : ∃ a c, v = .slice a 0 c := by
        obtain ⟨_, ho1, _⟩ := hT
        exact ownsRow_slice ho1
      go_wp2
      go_ret2
      exact ⟨hb1, CircRes.nil _ _⟩
    | cons c t =>
      rw [circV_cons hok hc]
      rw [hc] at HC hrl
      clear hn H hok hc
      go_enter Tryz.func60, Tryz.ntmps60
      go_wp2_with (go_at_call 82; refine HC.out.mono ?_; rintro e w1 ⟨v, base, hbs, hb1, ⟨h, _⟩ | ⟨_, rfl, hT⟩⟩; cases h; refine Stop.of ?_)
      refine Stop.go ?_
      obtain ⟨ln, hln⟩ : ∃ ln, ln = (c :: t).length := ⟨_, rfl⟩
      obtain ⟨b, cap2, rfl⟩ : ∃ a c, v = .slice a ln c := by
        obtain ⟨_, ho1, _⟩ := hT
        obtain ⟨a', c', e⟩ := ownsRow_slice ho1
        exact ⟨a', c', by rw [e, hln]⟩
      obtain ⟨b0, off, ra, rn, rc, rfl, hbs0, hq0, hrn, hrm, hri⟩ := hT.rows hln.symm hrl 0 (by simp)
      simp only [List.getElem_cons_zero, Nat.add_zero] at hq0 hrn hri
      have hl0 : 0 < ln := by rw [hln]; simp
      have hi0 : (0 : Int) < (ln : Int) := by omega
      have hz0 : ((ln : Int) == 0) = false := by simp; omega
      have HRI := hid hri
      clear hln hT hri hrl
      go_wp2
      go_ret2
      exact ⟨hb1, ra, rn, rc, rfl, hrn, hrm, HRI.out⟩
theorem circV_err {M : Mask} (h : (circV M).2 ≠ 0) : (circV M).1 = [] := by
  unfold circV at h ⊢
  split
  · rename_i h1
    rw [if_pos h1] at h
    cases hc : circP M (colsM M) with
    | nil => rfl
    | cons c t => rw [hc] at h; simp at h
  · rfl

set_option maxHeartbeats 1000000 in
theorem r3Spark_c (w : World) (a : Option Addr) (n cap : Nat) (M : Mask) (hn : M.length = n) (hm : n ≤ maxLen) (H : RowsAt w a M) :
    Calls Tryz.prog 37 #[.slice a n cap] w fun e w' => Below w.heap.size w w' ∧ e = .returned (.tuple #[.int .i64 (nzc (circV M).1), .int .i64 (circV M).2]) := by
  have HC := hid (r3Circuit_c w a n cap M hn hm H)
  have hce := circV_err (M := M)
  obtain ⟨⟨l, z⟩, hlz⟩ : ∃ p, p = circV M := ⟨_, rfl⟩
  rw [← hlz] at HC hce ⊢
  clear hn H hlz
  by_cases hz : z = 0
  · subst hz
    clear hce
    go_enter Tryz.func37, Tryz.ntmps37
    go_wp2_with (go_at_call 60; refine HC.out.mono ?_; rintro e w1 ⟨hb1, b, k, c, rfl, hlk, hkm, hI⟩; refine Stop.of ?_)
    refine Stop.go ?_
    have HI := hid hI
    have HLK := hid hlk
    have HB1 := hid hb1
    clear hI hlk hb1
    go_wp2
    go_loopw [6, 19] (fun v i wr => ∃ q : Nat, q ≤ k ∧ i = .int .i64 q ∧ v = .int .i64 (nzc (l.take q)) ∧ wr = w1) (fun _ i _ => k - (intOf i).toNat)
    case atStart => exact ⟨0, Nat.zero_le _, rfl, rfl, rfl⟩
    case round =>
      obtain ⟨q, hq, rfl, rfl, rfl⟩ := hrel
      by_cases hlt : q < k
      · have hql : q < l.length := by rw [HLK.out]; exact hlt
        obtain ⟨b0, off, rfl, hbs, hc⟩ := HI.out q hql
        have htk := nzc_take hql
        obtain ⟨x, hx⟩ : ∃ x, x = l[q]?.getD 0 := ⟨_, rfl⟩
        rw [← hx] at hc htk
        obtain ⟨m, hm'⟩ : ∃ m, m = nzc (l.take q) := ⟨_, rfl⟩
        rw [← hm'] at htk ⊢
        have hmq : m ≤ q := by rw [hm']; unfold nzc; exact Nat.le_trans List.countP_le_length (by rw [List.length_take]; omega)
        have hkm2 : k ≤ 9223372036854775807 := by unfold maxLen at hkm; omega
        have HTK := hid htk
        clear hx htk hm' hql
        by_cases h0 : x = 0
        · subst h0
          go_wp2
          exact ⟨⟨q + 1, by omega, by go_num, by rw [HTK.out]; rfl, by first | trivial | rfl⟩, by simp [intOf]; omega⟩
        · go_wp2
          exact ⟨⟨q + 1, by omega, by go_num, by rw [HTK.out, if_neg h0]; go_num, by first | trivial | rfl⟩, by simp [intOf]; omega⟩
      · obtain rfl : k = q := by omega
        have hall : l.take k = l := List.take_of_length_le (by rw [HLK.out]; exact Nat.le_refl _)
        rw [hall]
        clear hall
        go_wp2
        go_ret2
        exact ⟨HB1.out, rfl⟩
  · obtain rfl : l = [] := hce hz
    have hzb : (z != 0) = true := by simpa using hz
    clear hce
    go_enter Tryz.func37, Tryz.ntmps37
    go_wp2_with (go_at_call 60; refine HC.out.mono ?_; rintro e w1 ⟨hb1, b, k, c, rfl, hlk, hkm, hI⟩; refine Stop.of ?_)
    refine Stop.go ?_
    clear hI hlk
    go_wp2
    go_ret2
    exact ⟨hb1, rfl⟩

end Go.Proofs.YtkmjeegnijohmaaGreat

namespace Go.Proofs.YtkmjeegnijohmaaGreat
open Go.RowKit
set_option linter.unusedVariables false

theorem sSparsest_c (w : World) (a a2 : Option Addr) (n cap n2 cap2 : Nat) (M : Mask) (p : List (List Int)) (k : Int) (hn : M.length = n) (hm : n ≤ maxLen) (H : RowsAt w a M) (hn2 : p.length = n2) (hm2 : n2 ≤ maxLen) (H2 : RowsAt w a2 p) :
    Calls Tryz.prog 11 #[.slice a n cap, .slice a2 n2 cap2, .int .i64 k] w fun e w' => e = .returned (.tuple #[.int .i64 (sparsV M p k), .int .i64 (sparsE M p k)]) ∧ Below w.heap.size w w' := by
  have HV := hid (validPics_c w a n cap M hn hm H a2 n2 cap2 p hn2 hm2 H2)
  cases hP : picsB M p
  · have he : sparsE M p k = 1 := by unfold sparsE; rw [hP]; rfl
    have hb : sparsV M p k = 0 := by unfold sparsV; rw [he]; rfl
    rw [hP] at HV
    rw [he, hb]
    clear hn H hn2 H2 hP he hb
    go_enter Tryz.func11, Tryz.ntmps11
    go_wp2_with (go_at_call 31; refine HV.out.mono ?_; rintro e w1 ⟨rfl, hb1⟩)
    go_ret2
    exact ⟨rfl, hb1⟩
  · obtain ⟨hM, hp1, hp60, hpp⟩ := picsB_ok hP
    obtain ⟨_, h1, h6, hc1, hc10⟩ := okM_ok hM
    obtain ⟨b, off, ra, rc, rfl, hb, hc⟩ := rows_head H (by omega)
    have i0 : (0 : Int) < (n : Int) := by omega
    have HC0 := hid (show ∀ X : World, Below w.heap.size w X → X.cell? ⟨b, off, none⟩ = some (.slice ra (colsM M) rc) from fun X hX => (hX.cell (p := ⟨b, off, none⟩) hb).trans hc)
    have HT := hid (fun X => swithin_c k 0 (colsM M) X)
    have HE := hid (show sparsE M p k = if inB k 0 (colsM M) = true then 0 else 7 by unfold sparsE; rw [hP]; rfl)
    rw [hP] at HV
    cases hT : inB k 0 (colsM M)
    · have he : sparsE M p k = 7 := by rw [HE.out, hT]; rfl
      have hb : sparsV M p k = 0 := by unfold sparsV; rw [he]; rfl
      rw [hT] at HT
      rw [he, hb]
      obtain ⟨W, hW⟩ : ∃ W, W = colsM M := ⟨_, rfl⟩
      rw [← hW] at HT HC0
      clear hn H hn2 H2 hP he hb hc hpp hM hW hT
      go_enter Tryz.func11, Tryz.ntmps11
      go_wp2_with first
        | (go_at_call 31; refine HV.out.mono ?_; rintro e w1 ⟨rfl, hb1⟩; have hc1' := HC0.out w1 hb1)
        | (go_at_call 32; refine (HT.out _).mono ?_; rintro e w2 ⟨rfl, rfl⟩)
      go_ret2
      exact ⟨rfl, hb1⟩
    · have he : sparsE M p k = 0 := by rw [HE.out, hT]; rfl
      have hb : sparsV M p k = (sparsTo M p k n2 : Int) := by unfold sparsV; rw [if_pos he, hn2]
      have hn60 : n2 ≤ 60 := by omega
      have hn21 : 1 ≤ n2 := by omega
      have HR := hid (fun (X : World) (hX : Below w.heap.size w X) (E : Nat) (h1 : 1 ≤ E) (h2 : E ≤ 60) => right_c X (some ⟨b, off, none⟩) a2 n cap n2 cap2 M p E k hn hn2 hm hm2 (H.below hX) (H2.below hX) hP h1 h2)
      have HS := hid (show ∀ E, sparsTo M p k (E + 1) = if rightF M p (E + 1) k = true then E + 1 else sparsTo M p k E from fun E => rfl)
      have H1 := hid (right_one hP k)
      rw [hT] at HT
      rw [he, hb]
      obtain ⟨W, hW⟩ : ∃ W, W = colsM M := ⟨_, rfl⟩
      rw [← hW] at HT HC0
      clear hn H hn2 H2 hP he hb hc hpp hM hW hT hp1 hp60 hm2
      go_enter Tryz.func11, Tryz.ntmps11
      go_wp2_with first
        | (go_at_call 31; refine HV.out.mono ?_; rintro e w1 ⟨rfl, hb1⟩; have hc1' := HC0.out w1 hb1)
        | (go_at_call 32; refine (HT.out _).mono ?_; rintro e w2 ⟨rfl, rfl⟩)
      have HB1 := hid hb1
      clear hb1 hc1'
      go_loopw [8] (fun v wr => ∃ E : Nat, E + 1 ≤ n2 ∧ v = .int .i64 ((E + 1 : Nat) : Int) ∧ sparsTo M p k n2 = sparsTo M p k (E + 1) ∧ Below w1.heap.size w1 wr) (fun v _ => (intOf v).toNat)
      case atStart => exact ⟨n2 - 1, by omega, by rw [show n2 - 1 + 1 = n2 by omega], by rw [show n2 - 1 + 1 = n2 by omega], Below.refl _ _⟩
      case round =>
        obtain ⟨E, hE, rfl, hsp, hbk⟩ := hrel
        have HRR := hid (HR.out _ (chain HB1.out hbk) (E + 1) (by omega) (by omega))
        have hst := HS.out E
        have HBK := hid hbk
        have h11 := H1.out
        cases hr : rightF M p (E + 1) k
        · have hE1 : 1 ≤ E := by
            rcases Nat.eq_zero_or_pos E with e | e
            · subst e; rw [hr] at h11; cases h11
            · exact e
          obtain ⟨G, rfl⟩ : ∃ G, E = G + 1 := ⟨E - 1, by omega⟩
          rw [hr, if_neg (by simp)] at hst
          rw [hr] at HRR
          have HSP := hid (hsp.trans hst)
          clear hsp hst hr h11 hbk
          obtain ⟨Q, hQ⟩ : ∃ Q : Int, Q = ((G + 1 + 1 : Nat) : Int) := ⟨_, rfl⟩
          rw [← hQ] at HRR ⊢
          have hq1 : 1 < Q := by omega
          have hq60 : Q ≤ 60 := by omega
          have HQ := hid hQ
          clear hQ
          go_wp2_with (go_at_call 33; refine HRR.out.mono ?_; rintro e w3 ⟨rfl, hb3⟩; refine Stop.of ?_)
          refine Stop.go ?_
          have HB3 := hid (chain HBK.out hb3)
          clear hb3
          go_wp2
          have hq := HQ.out
          exact ⟨⟨G, by omega, congrArg (Value.int .i64) (by omega), HSP.out, HB3.out⟩, by simp [intOf]; omega⟩
        · rw [hr, if_pos rfl] at hst
          rw [hr] at HRR
          have HSP := hid (hsp.trans hst)
          obtain ⟨Q, hQ⟩ : ∃ Q : Int, Q = ((E + 1 : Nat) : Int) := ⟨_, rfl⟩
          rw [← hQ] at HRR ⊢
          have HQ := hid hQ
          clear hsp hst hr h11 hbk
          rcases Nat.eq_zero_or_pos E with e | e
          · have hq1 : ¬ 1 < Q := by omega
            clear hQ
            go_wp2_with (go_at_call 33; refine HRR.out.mono ?_; rintro e w3 ⟨rfl, hb3⟩; refine Stop.of ?_)
            all_goals
              try (refine Stop.go ?_; go_wp2)
              first
                | (go_ret2; exact ⟨congrArg (fun z : Int => Ending.returned (.tuple #[.int .i64 z, .int .i64 0])) (show Q = _ by rw [HSP.out, ← HQ.out]), by first | exact chain HB1.out (chain HBK.out hb3) | exact chain HB1.out HBK.out⟩)
                | exact ⟨.tuple #[.int .i64 Q, .int .i64 0], results_tmp2 (fn := Tryz.f11) (t := 6) (u := 7) rfl _ _ _, by rw [HSP.out, ← HQ.out], by first | exact chain HB1.out (chain HBK.out hb3) | exact chain HB1.out HBK.out⟩
          · have hq1 : 1 < Q := by omega
            clear hQ
            go_wp2_with (go_at_call 33; refine HRR.out.mono ?_; rintro e w3 ⟨rfl, hb3⟩; refine Stop.of ?_)
            refine Stop.go ?_
            go_wp2
            go_ret2
            exact ⟨congrArg (fun z : Int => Ending.returned (.tuple #[.int .i64 z, .int .i64 0])) (show Q = _ by rw [HSP.out, ← HQ.out]), chain HB1.out (chain HBK.out hb3)⟩
theorem r8Sparsest_c (w : World) (a a2 : Option Addr) (n cap n2 cap2 : Nat) (M : Mask) (p : List (List Int)) (k : Int) (hn : M.length = n) (hm : n ≤ maxLen) (H : RowsAt w a M) (hn2 : p.length = n2) (hm2 : n2 ≤ maxLen) (H2 : RowsAt w a2 p) :
    Calls Tryz.prog 12 #[.slice a n cap, .slice a2 n2 cap2, .int .i64 k] w fun e w' => e = .returned (.tuple #[.int .i64 (sparsV M p k), .int .i64 (sparsE M p k)]) ∧ Below w.heap.size w w' := by
  have HV := hid (r8validPics_c w a n cap M hn hm H a2 n2 cap2 p hn2 hm2 H2)
  cases hP : picsB M p
  · have he : sparsE M p k = 1 := by unfold sparsE; rw [hP]; rfl
    have hb : sparsV M p k = 0 := by unfold sparsV; rw [he]; rfl
    rw [hP] at HV
    rw [he, hb]
    clear hn H hn2 H2 hP he hb
    go_enter Tryz.func12, Tryz.ntmps12
    go_wp2_with (go_at_call 34; refine HV.out.mono ?_; rintro e w1 ⟨rfl, hb1⟩)
    go_ret2
    exact ⟨rfl, hb1⟩
  · obtain ⟨hM, hp1, hp60, hpp⟩ := picsB_ok hP
    obtain ⟨_, h1, h6, hc1, hc10⟩ := okM_ok hM
    obtain ⟨b, off, ra, rc, rfl, hb, hc⟩ := rows_head H (by omega)
    have i0 : (0 : Int) < (n : Int) := by omega
    have HC0 := hid (show ∀ X : World, Below w.heap.size w X → X.cell? ⟨b, off, none⟩ = some (.slice ra (colsM M) rc) from fun X hX => (hX.cell (p := ⟨b, off, none⟩) hb).trans hc)
    have HT := hid (fun X => r8in_c k 0 (colsM M) X)
    have HE := hid (show sparsE M p k = if inB k 0 (colsM M) = true then 0 else 7 by unfold sparsE; rw [hP]; rfl)
    rw [hP] at HV
    cases hT : inB k 0 (colsM M)
    · have he : sparsE M p k = 7 := by rw [HE.out, hT]; rfl
      have hb : sparsV M p k = 0 := by unfold sparsV; rw [he]; rfl
      rw [hT] at HT
      rw [he, hb]
      obtain ⟨W, hW⟩ : ∃ W, W = colsM M := ⟨_, rfl⟩
      rw [← hW] at HT HC0
      clear hn H hn2 H2 hP he hb hc hpp hM hW hT
      go_enter Tryz.func12, Tryz.ntmps12
      go_wp2_with first
        | (go_at_call 34; refine HV.out.mono ?_; rintro e w1 ⟨rfl, hb1⟩; have hc1' := HC0.out w1 hb1)
        | (go_at_call 35; refine (HT.out _).mono ?_; rintro e w2 ⟨rfl, rfl⟩)
      go_ret2
      exact ⟨rfl, hb1⟩
    · have he : sparsE M p k = 0 := by rw [HE.out, hT]; rfl
      have hb : sparsV M p k = (sparsTo M p k n2 : Int) := by unfold sparsV; rw [if_pos he, hn2]
      have hn60 : n2 ≤ 60 := by omega
      have hn21 : 1 ≤ n2 := by omega
      have HR := hid (fun (X : World) (hX : Below w.heap.size w X) (E : Nat) (h1 : 1 ≤ E) (h2 : E ≤ 60) => r8sent_c X (some ⟨b, off, none⟩) a2 n cap n2 cap2 M p E k hn hn2 hm hm2 (H.below hX) (H2.below hX) hP h1 h2)
      have HS := hid (show ∀ E, sparsTo M p k (E + 1) = if rightF M p (E + 1) k = true then E + 1 else sparsTo M p k E from fun E => rfl)
      have H1 := hid (right_one hP k)
      rw [hT] at HT
      rw [he, hb]
      obtain ⟨W, hW⟩ : ∃ W, W = colsM M := ⟨_, rfl⟩
      rw [← hW] at HT HC0
      clear hn H hn2 H2 hP he hb hc hpp hM hW hT hp1 hp60 hm2
      go_enter Tryz.func12, Tryz.ntmps12
      go_wp2_with first
        | (go_at_call 34; refine HV.out.mono ?_; rintro e w1 ⟨rfl, hb1⟩; have hc1' := HC0.out w1 hb1)
        | (go_at_call 35; refine (HT.out _).mono ?_; rintro e w2 ⟨rfl, rfl⟩)
      have HB1 := hid hb1
      clear hb1 hc1'
      go_loopw [8] (fun v wr => ∃ E : Nat, E + 1 ≤ n2 ∧ v = .int .i64 ((E + 1 : Nat) : Int) ∧ sparsTo M p k n2 = sparsTo M p k (E + 1) ∧ Below w1.heap.size w1 wr) (fun v _ => (intOf v).toNat)
      case atStart => exact ⟨n2 - 1, by omega, by rw [show n2 - 1 + 1 = n2 by omega], by rw [show n2 - 1 + 1 = n2 by omega], Below.refl _ _⟩
      case round =>
        obtain ⟨E, hE, rfl, hsp, hbk⟩ := hrel
        have HRR := hid (HR.out _ (chain HB1.out hbk) (E + 1) (by omega) (by omega))
        have hst := HS.out E
        have HBK := hid hbk
        have h11 := H1.out
        cases hr : rightF M p (E + 1) k
        · have hE1 : 1 ≤ E := by
            rcases Nat.eq_zero_or_pos E with e | e
            · subst e; rw [hr] at h11; cases h11
            · exact e
          obtain ⟨G, rfl⟩ : ∃ G, E = G + 1 := ⟨E - 1, by omega⟩
          rw [hr, if_neg (by simp)] at hst
          rw [hr] at HRR
          have HSP := hid (hsp.trans hst)
          clear hsp hst hr h11 hbk
          obtain ⟨Q, hQ⟩ : ∃ Q : Int, Q = ((G + 1 + 1 : Nat) : Int) := ⟨_, rfl⟩
          rw [← hQ] at HRR ⊢
          have hq1 : 1 < Q := by omega
          have hq60 : Q ≤ 60 := by omega
          have HQ := hid hQ
          clear hQ
          go_wp2_with (go_at_call 36; refine HRR.out.mono ?_; rintro e w3 ⟨rfl, hb3⟩; refine Stop.of ?_)
          refine Stop.go ?_
          have HB3 := hid (chain HBK.out hb3)
          clear hb3
          go_wp2
          have hq := HQ.out
          exact ⟨⟨G, by omega, congrArg (Value.int .i64) (by omega), HSP.out, HB3.out⟩, by simp [intOf]; omega⟩
        · rw [hr, if_pos rfl] at hst
          rw [hr] at HRR
          have HSP := hid (hsp.trans hst)
          obtain ⟨Q, hQ⟩ : ∃ Q : Int, Q = ((E + 1 : Nat) : Int) := ⟨_, rfl⟩
          rw [← hQ] at HRR ⊢
          have HQ := hid hQ
          clear hsp hst hr h11 hbk
          rcases Nat.eq_zero_or_pos E with e | e
          · have hq1 : ¬ 1 < Q := by omega
            clear hQ
            go_wp2_with (go_at_call 36; refine HRR.out.mono ?_; rintro e w3 ⟨rfl, hb3⟩; refine Stop.of ?_)
            all_goals
              try (refine Stop.go ?_; go_wp2)
              first
                | (go_ret2; exact ⟨congrArg (fun z : Int => Ending.returned (.tuple #[.int .i64 z, .int .i64 0])) (show Q = _ by rw [HSP.out, ← HQ.out]), by first | exact chain HB1.out (chain HBK.out hb3) | exact chain HB1.out HBK.out⟩)
                | exact ⟨.tuple #[.int .i64 Q, .int .i64 0], results_tmp2 (fn := Tryz.f12) (t := 6) (u := 7) rfl _ _ _, by rw [HSP.out, ← HQ.out], by first | exact chain HB1.out (chain HBK.out hb3) | exact chain HB1.out HBK.out⟩
          · have hq1 : 1 < Q := by omega
            clear hQ
            go_wp2_with (go_at_call 36; refine HRR.out.mono ?_; rintro e w3 ⟨rfl, hb3⟩; refine Stop.of ?_)
            refine Stop.go ?_
            go_wp2
            go_ret2
            exact ⟨congrArg (fun z : Int => Ending.returned (.tuple #[.int .i64 z, .int .i64 0])) (show Q = _ by rw [HSP.out, ← HQ.out]), chain HB1.out (chain HBK.out hb3)⟩

def sureV (M : Mask) : Int × Int := if (circV M).2 = 8 then ((colsM M : Int), 0) else if (circV M).2 = 0 then (((nzc (circV M).1 : Int) - 1) / 2, 0) else (0, (circV M).2)
theorem sure_nz {M : Mask} (hM : okM M = true) (h : (circV M).2 = 0) : 1 ≤ nzc (circV M).1 := by
  obtain ⟨hO, _⟩ := okM_ok hM
  cases hc : circP M (colsM M) with
  | nil => rw [circV_none hM hc] at h; cases h
  | cons c t =>
    rw [circV_cons hM hc]
    have hm : c ∈ circP M (colsM M) := by rw [hc]; simp
    obtain ⟨k, S, hk, hS, h1⟩ := circP_mem.1 hm
    have hSo := comb_ok hS
    have hSl := comb_len _ _ _ S hS
    obtain ⟨h2, _⟩ := circ_facts hO hSo (by intro e; rw [e] at hSl; simp at hSl) h1
    have h0 : 0 < S.length := by omega
    have h3 := hSo.get h0
    have h4 : vec c (S[0]).toNat ≠ 0 := (circ_supp hO hSo h1 _).2 (by rw [Int.toNat_of_nonneg h3.1]; exact List.getElem_mem h0)
    have h5 : (S[0]).toNat < c.length := by omega
    unfold nzc
    refine List.countP_pos_iff.2 ⟨c[(S[0]).toNat], List.getElem_mem h5, ?_⟩
    rw [vec_lt h5] at h4
    simpa using h4
theorem r4Sure_c (w : World) (a : Option Addr) (n cap : Nat) (M : Mask) (hn : M.length = n) (hm : n ≤ maxLen) (H : RowsAt w a M) :
    Calls Tryz.prog 13 #[.slice a n cap] w fun e w' => e = .returned (.tuple #[.int .i64 (sureV M).1, .int .i64 (sureV M).2]) ∧ Below w.heap.size w w' := by
  have HS := hid (r3Spark_c w a n cap M hn hm H)
  cases hok : okM M
  · have hz : sureV M = (0, 1) := by unfold sureV; rw [circV_no hok]; rfl
    rw [circV_no hok] at HS
    rw [hz]
    clear hn H hok hz
    go_enter Tryz.func13, Tryz.ntmps13
    go_wp2_with (go_at_call 37; refine HS.out.mono ?_; rintro e w1 ⟨hb1, rfl⟩)
    go_ret2
    exact ⟨rfl, hb1⟩
  · obtain ⟨_, h1, h6, hc1, hc10⟩ := okM_ok hok
    obtain ⟨b, off, ra, rc, rfl, hb, hc⟩ := rows_head H (by omega)
    have i0 : (0 : Int) < (n : Int) := by omega
    have HC0 := hid (show ∀ X : World, Below w.heap.size w X → X.cell? ⟨b, off, none⟩ = some (.slice ra (colsM M) rc) from fun X hX => (hX.cell (p := ⟨b, off, none⟩) hb).trans hc)
    cases hcp : circP M (colsM M) with
    | nil =>
      have hz : sureV M = ((colsM M : Int), 0) := by unfold sureV; rw [circV_none hok hcp]; rfl
      rw [circV_none hok hcp] at HS
      rw [hz]
      obtain ⟨W, hW⟩ : ∃ W, W = colsM M := ⟨_, rfl⟩
      rw [← hW] at HC0 ⊢
      clear hn H hok hz hc hcp hW
      go_enter Tryz.func13, Tryz.ntmps13
      go_wp2_with (go_at_call 37; refine HS.out.mono ?_; rintro e w1 ⟨hb1, rfl⟩; have hc1' := HC0.out w1 hb1)
      go_ret2
      exact ⟨rfl, hb1⟩
    | cons c t =>
      have e2 := circV_cons hok hcp
      have hpos := sure_nz hok (by rw [e2])
      have hle : nzc (circV M).1 ≤ 20 := by
        rw [e2]
        obtain ⟨hO, _⟩ := okM_ok hok
        have hm : c ∈ circP M (colsM M) := by rw [hcp]; simp
        obtain ⟨k, S, hk, hS, h1⟩ := circP_mem.1 hm
        have hSl := comb_len _ _ _ S hS
        obtain ⟨h2, _⟩ := circ_facts hO (comb_ok hS) (by intro e; rw [e] at hSl; simp at hSl) h1
        have : nzc c ≤ c.length := List.countP_le_length
        show nzc c ≤ 20
        omega
      have hz : sureV M = (((nzc (circV M).1 : Int) - 1) / 2, 0) := by unfold sureV; rw [if_neg (by rw [e2]; simp), if_pos (by rw [e2])]
      rw [hz]
      rw [show (circV M).2 = 0 by rw [e2]] at HS
      obtain ⟨s, hs⟩ : ∃ s, s = nzc (circV M).1 := ⟨_, rfl⟩
      rw [← hs] at HS hpos hle ⊢
      have hi1 : (0 : Int) ≤ (s : Int) - 1 := by omega
      have hi2 : (s : Int) - 1 ≤ 20 := by omega
      have hi3 : (1 : Int) ≤ (s : Int) := by omega
      have hi4 : (s : Int) ≤ 20 := by omega
      clear hn H hok hz hc hcp e2 hs
      go_enter Tryz.func13, Tryz.ntmps13
      go_wp2_with (go_at_call 37; refine HS.out.mono ?_; rintro e w1 ⟨hb1, rfl⟩)
      go_ret2
      exact ⟨rfl, hb1⟩
end Go.Proofs.YtkmjeegnijohmaaGreat

namespace Go.Proofs.YtkmjeegnijohmaaGreat
open Go.RowKit
set_option linter.unusedVariables false

theorem nzc_supp {n : Nat} : ∀ {c : List Int}, c.length = n → nzc c = (suppL n (vec c)).length := by
  intro c hc
  unfold suppL
  rw [List.length_map, ← List.countP_eq_length_filter]
  have e : c = (List.range n).map (fun q => vec c q) := by
    refine List.ext_getElem (by simp [hc]) fun i h1 h2 => ?_
    simp only [List.getElem_map, List.getElem_range]
    exact (vec_lt h1).symm
  unfold nzc
  conv => lhs; rw [e]
  rw [List.countP_map]
  rfl
theorem supp_eq {n : Nat} {S : List Int} (hS : SetOk n S) {v : Vec} (h : ∀ j : Nat, v j ≠ 0 ↔ (j : Int) ∈ S) : (suppL n v).length = S.length := by
  have h1 := suppL_ok n v
  have e : (suppL n v).map Int.toNat = S.map Int.toNat := by
    refine asc_eq ?_ ?_ fun x => ?_
    · rw [List.pairwise_map]
      refine h1.1.imp_of_mem fun {a b} ha hb hab => ?_
      have := h1.2 a ha; have := h1.2 b hb; omega
    · rw [List.pairwise_map]
      refine hS.1.imp_of_mem fun {a b} ha hb hab => ?_
      have := hS.2 a ha; have := hS.2 b hb; omega
    · constructor
      · intro hx
        obtain ⟨y, hy, rfl⟩ := List.mem_map.1 hx
        have hb := h1.2 y hy
        have hy' : ((y.toNat : Nat) : Int) ∈ suppL n v := by rw [show ((y.toNat : Nat) : Int) = y by omega]; exact hy
        have := (h y.toNat).1 (mem_suppL.1 hy').2
        exact List.mem_map.2 ⟨_, this, by omega⟩
      · intro hx
        obtain ⟨y, hy, rfl⟩ := List.mem_map.1 hx
        have hb := hS.2 y hy
        have hy' : ((y.toNat : Nat) : Int) ∈ S := by rw [show ((y.toNat : Nat) : Int) = y by omega]; exact hy
        have := mem_suppL.2 ⟨show y.toNat < n by omega, (h y.toNat).2 hy'⟩
        exact List.mem_map.2 ⟨_, this, by omega⟩
  have := congrArg List.length e
  simpa using this
theorem flat_head {α : Type} (f : Nat → List α) {N k : Nat} (hk : k < N) (hf : f k ≠ []) {c : α} {t : List α} (h : (List.range N).flatMap f = c :: t) : ∃ k0, k0 ≤ k ∧ c ∈ f k0 := by
  have e : List.range N = List.range (k + 1) ++ (List.range' (k + 1) (N - (k + 1))) := by
    rw [List.range_eq_range', List.range_eq_range']
    have := @List.range'_append_1 0 (k + 1) (N - (k + 1))
    rw [Nat.zero_add] at this
    rw [this]; congr 1; omega
  rw [e, List.flatMap_append] at h
  cases hl : (List.range (k + 1)).flatMap f with
  | nil =>
    have := List.flatMap_eq_nil_iff.1 hl k (List.mem_range.2 (by omega))
    exact absurd this hf
  | cons d u =>
    rw [hl] at h
    have hd : d = c := by simpa using (List.cons.inj h).1
    have : d ∈ (List.range (k + 1)).flatMap f := by rw [hl]; exact List.mem_cons_self ..
    obtain ⟨k0, hk0, hm⟩ := List.mem_flatMap.1 this
    exact ⟨k0, by have := List.mem_range.1 hk0; omega, hd ▸ hm⟩
theorem dep_spark {M : Mask} {l : List Int} (hp : pixE M l = 0) (hd : decide (rankF (colsF M l) l.length = l.length) = false) : (circV M).2 = 0 ∧ nzc (circV M).1 ≤ l.length := by
  obtain ⟨hok, hso⟩ := pix_ok hp
  obtain ⟨hM, h1, h6, hc1, hc10⟩ := okM_ok hok
  have hrk := (hM.cols l).rank_ker
  have hne : rankF (colsF M l) l.length ≠ l.length := of_decide_eq_false hd
  have hkl : 0 < (kerSP M l).length := by
    show 0 < (kernP (RP (colsF M l) l.length) (JP (colsF M l) l.length) l.length).length
    omega
  have hm : (kerSP M l)[0] ∈ kerSP M l := List.getElem_mem _
  obtain ⟨u, hu⟩ : ∃ u, u = (kerSP M l)[0] := ⟨_, rfl⟩
  rw [← hu] at hm
  obtain ⟨k1, k2, k3, f, hf, k4⟩ := (hM.cols l).kern hm
  have hv := (spread_ker (M := M) hso).2 k1
  obtain ⟨n, hn⟩ : ∃ n, n = colsM M := ⟨_, rfl⟩
  rw [← hn] at hso hv hM
  obtain ⟨v, hve⟩ : ∃ v, v = vec (spreadF n l u l.length) := ⟨_, rfl⟩
  have hnz : ∃ j, j < n ∧ v j ≠ 0 := by
    have hf2 := hso.2 l[f] (List.getElem_mem hf)
    refine ⟨(l[f]).toNat, by omega, ?_⟩
    rw [hve]
    exact (spread_nz hso k2).2 ⟨f, hf, by omega, by omega⟩
  rw [← hve] at hv
  obtain ⟨S, c, hS, hSl, hSne, hSub, hcc⟩ := circ_within hM (suppL n v).length v rfl hv hnz
  have hsl : (suppL n v).length ≤ l.length := by
    have h1 := suppL_ok n v
    have hnd : (suppL n v).Nodup := h1.1.imp (fun h => by omega)
    refine nodup_sub hnd fun y hy => ?_
    have hb := h1.2 y hy
    have hy' : ((y.toNat : Nat) : Int) ∈ suppL n v := by rw [show ((y.toNat : Nat) : Int) = y by omega]; exact hy
    have h3 := (mem_suppL.1 hy').2
    rw [hve] at h3
    obtain ⟨i, hi, e, _⟩ := (spread_nz hso k2).1 h3
    have : y = l[i] := by omega
    rw [this]; exact List.getElem_mem hi
  -- it is among the circuits
  have hS0 : 0 < S.length := by
    rcases Nat.eq_zero_or_pos S.length with h | h
    · exact absurd (List.length_eq_zero_iff.1 h) hSne
    · exact h
  have hSr : S.length ≤ rankF M n + 1 := by
    refine Classical.byContradiction fun h => ?_
    rw [circ1_many hM (by omega)] at hcc
    cases hcc
  have hSn := set_le hS
  have hcm := comb_mem n 0 S hS.1 (fun y hy => by have := hS.2 y hy; omega)
  obtain ⟨k, hk⟩ : ∃ k, S.length = k + 1 := ⟨S.length - 1, by omega⟩
  rw [hk] at hcm
  have hfk : (comb n (k + 1) 0).filterMap (circ1P M n) ≠ [] := by
    intro e
    have : c ∈ (comb n (k + 1) 0).filterMap (circ1P M n) := List.mem_filterMap.2 ⟨S, hcm, hcc⟩
    rw [e] at this; cases this
  have hkN : k < min (rankF M n + 1) n := by omega
  cases hC : circP M n with
  | nil =>
    exfalso
    have : c ∈ circP M n := circP_mem.2 ⟨k, S, hkN, hcm, hcc⟩
    rw [hC] at this; cases this
  | cons c0 t =>
    rw [hn] at hC
    rw [circV_cons hok hC]
    refine ⟨rfl, ?_⟩
    rw [← hn] at hC
    obtain ⟨k0, hk0, hm0⟩ := flat_head (fun k => (comb n (k + 1) 0).filterMap (circ1P M n)) hkN hfk hC
    obtain ⟨S0, hS0m, hcc0⟩ := List.mem_filterMap.1 hm0
    have hS0l := comb_len _ _ _ S0 hS0m
    have hS0o := comb_ok hS0m
    have hne0 : S0 ≠ [] := fun e => by rw [e] at hS0l; simp at hS0l
    have hc0l := (circ_facts hM hS0o hne0 hcc0).1
    show nzc c0 ≤ l.length
    rw [nzc_supp hc0l, supp_eq hS0o (circ_supp hM hS0o hcc0)]
    omega
end Go.Proofs.YtkmjeegnijohmaaGreat

namespace Go.Proofs.YtkmjeegnijohmaaGreat
set_option linter.unusedVariables false

structure Circ (M : List (List Int)) (n : Nat) (c : List Int) : Prop where
  len : c.length = n
  ker : IsKer M n (vec c)
  prim : Prim (vec c)
  pos : 0 < firstNz c
  least : ∀ v, IsKer M n v → (∀ j, j < n → vec c j = 0 → v j = 0) → (∃ j, j < n ∧ v j ≠ 0) → ∀ j, j < n → vec c j ≠ 0 → v j ≠ 0

theorem firstNz_ex : ∀ (l : List Int), firstNz l ≠ 0 → ∃ j, j < l.length ∧ vec l j = firstNz l ∧ ∀ i, i < j → vec l i = 0
  | [], h => by simp [firstNz] at h
  | x :: l, h => by
    by_cases e : x = 0
    · have h1 : firstNz (x :: l) = firstNz l := by show (if x = 0 then firstNz l else x) = _; rw [if_pos e]
      rw [h1] at h ⊢
      obtain ⟨j, hj, h2, h3⟩ := firstNz_ex l h
      refine ⟨j + 1, by simp; omega, by rw [← h2]; simp [vec], fun i hi => ?_⟩
      cases i with
      | zero => simp [vec, e]
      | succ i => have := h3 i (by omega); simpa [vec] using this
    · have h1 : firstNz (x :: l) = x := by show (if x = 0 then firstNz l else x) = _; rw [if_neg e]
      rw [h1]
      exact ⟨0, by simp, by simp [vec], fun i hi => by omega⟩
theorem firstNz_eq : ∀ (l : List Int) (j : Nat), vec l j ≠ 0 → (∀ i, i < j → vec l i = 0) → firstNz l = vec l j
  | [], j, h, _ => by simp [vec] at h
  | x :: l, 0, h, _ => by
    have hx : x ≠ 0 := by simpa [vec] using h
    show (if x = 0 then firstNz l else x) = _
    rw [if_neg hx]; simp [vec]
  | x :: l, j + 1, h, h0 => by
    have hx : x = 0 := by have := h0 0 (by omega); simpa [vec] using this
    show (if x = 0 then firstNz l else x) = _
    rw [if_pos hx, firstNz_eq l j (by simpa [vec] using h) (fun i hi => by have := h0 (i + 1) (by omega); simpa [vec] using this)]
    simp [vec]
theorem vec_ext {l m : List Int} (hl : l.length = m.length) (h : ∀ j, vec l j = vec m j) : l = m :=
  List.ext_getElem hl fun j h1 h2 => by have := h j; rwa [vec_lt h1, vec_lt h2] at this
theorem IsKer.lin {M : List (List Int)} {n : Nat} {u v : Vec} (hu : IsKer M n u) (hv : IsKer M n v) (x y : Int) : IsKer M n (fun c => x * u c + y * v c) := by
  intro q hq
  have h1 := hu q hq
  have h2 := hv q hq
  unfold dotS at *
  rw [sm_congr (g := fun c => x * (rowv M q c * u c) + y * (rowv M q c * v c)) (fun c _ => by grind), sm_add, sm_mul, sm_mul, h1, h2]; simp

theorem Circ.one {M : List (List Int)} {n : Nat} {c d : List Int} (hc : Circ M n c) (hd : Circ M n d) (hs : ∀ j, j < n → vec c j = 0 → vec d j = 0) : c = d := by
  obtain ⟨j0, hj0, e0, z0⟩ := firstNz_ex d (by have := hd.pos; omega)
  rw [hd.len] at hj0
  have hd0 : vec d j0 ≠ 0 := by have := hd.pos; omega
  have hcd := hc.least _ hd.ker hs ⟨j0, hj0, hd0⟩
  -- same support
  have hc0 : vec c j0 ≠ 0 := fun e => hd0 (hs j0 hj0 e)
  have zc : ∀ i, i < j0 → vec c i = 0 := fun i hi => Classical.byContradiction fun h => hcd i (by omega) h (z0 i hi)
  have ec := firstNz_eq c j0 hc0 zc
  have hk : ∀ j, vec d j0 * vec c j = vec c j0 * vec d j := by
    intro j
    rcases Nat.lt_or_ge j n with hj | hj
    · refine Classical.byContradiction fun hne => ?_
      have hv := hc.ker.lin hd.ker (vec d j0) (-(vec c j0))
      have := hc.least _ hv (fun i hi h => by rw [h, hs i hi h]; simp) ⟨j, hj, fun h => hne (by rw [Int.neg_mul] at h; omega)⟩ j0 hj0 hc0
      refine this ?_
      rw [Int.neg_mul, Int.mul_comm]; omega
    · rw [vec_ge (l := c) (c := j) (by rw [hc.len]; exact hj), vec_ge (l := d) (c := j) (by rw [hd.len]; exact hj)]; simp
  refine vec_ext (by rw [hc.len, hd.len]) fun j => prim_eq (x := vec d j0) (y := vec c j0) ?_ ?_ hk hc.prim hd.prim j
  · have := hd.pos; omega
  · have := hc.pos; omega

theorem comb_nodup : ∀ (m k : Nat) (a : Int), (comb m k a).Nodup
  | _, 0, _ => by unfold comb; simp
  | 0, _ + 1, _ => by unfold comb; simp
  | m + 1, k + 1, a => by
    unfold comb
    rw [List.nodup_append]
    refine ⟨?_, comb_nodup m (k + 1) (a + 1), ?_⟩
    · unfold List.Nodup
      rw [List.pairwise_map]
      exact (comb_nodup m k (a + 1)).imp fun h e => h (by simpa using e)
    · rintro x hx y hy rfl
      obtain ⟨z, _, rfl⟩ := List.mem_map.1 hx
      have := (comb_asc _ _ _ _ hy).2 a (by simp)
      omega

structure Perm2 (n : Nat) (s t : Nat → Nat) : Prop where
  s_lt : ∀ i, i < n → s i < n
  t_lt : ∀ i, i < n → t i < n
  st : ∀ i, i < n → s (t i) = i
  ts : ∀ i, i < n → t (s i) = i
theorem Perm2.symm {n : Nat} {s t : Nat → Nat} (h : Perm2 n s t) : Perm2 n t s := ⟨h.t_lt, h.s_lt, h.ts, h.st⟩
theorem Perm2.perm {n : Nat} {s t : Nat → Nat} (h : Perm2 n s t) : ((List.range n).map s).Perm (List.range n) := by
  refine (List.perm_ext_iff_of_nodup ?_ List.nodup_range).2 fun a => ?_
  · unfold List.Nodup
    rw [List.pairwise_map]
    refine List.nodup_range.imp_of_mem fun {a b} ha hb hne e => hne ?_
    rw [← h.ts a (List.mem_range.1 ha), ← h.ts b (List.mem_range.1 hb), e]
  · rw [List.mem_map, List.mem_range]
    constructor
    · rintro ⟨i, hi, rfl⟩; exact h.s_lt i (List.mem_range.1 hi)
    · intro ha; exact ⟨t a, List.mem_range.2 (h.t_lt a ha), h.st a ha⟩
def sumL (f : Nat → Int) : List Nat → Int
  | [] => 0
  | a :: l => f a + sumL f l
theorem sumL_perm (f : Nat → Int) {l m : List Nat} (h : l.Perm m) : sumL f l = sumL f m := by
  induction h with
  | nil => rfl
  | cons a _ ih => unfold sumL; rw [ih]
  | swap a b l => simp only [sumL]; omega
  | trans _ _ h1 h2 => rw [h1, h2]
theorem sumL_app (f : Nat → Int) : ∀ l m : List Nat, sumL f (l ++ m) = sumL f l + sumL f m
  | [], m => by simp [sumL]
  | a :: l, m => by show f a + sumL f (l ++ m) = _; rw [sumL_app f l m]; simp only [sumL]; omega
theorem sumL_map (f : Nat → Int) (g : Nat → Nat) : ∀ l : List Nat, sumL f (l.map g) = sumL (fun i => f (g i)) l
  | [] => rfl
  | a :: l => by simp only [List.map_cons, sumL]; rw [sumL_map f g l]
theorem sm_sumL (f : Nat → Int) : ∀ n, sm f n = sumL f (List.range n)
  | 0 => rfl
  | n + 1 => by
    rw [List.range_succ, sumL_app, ← sm_sumL f n]
    show sm f n + f n = _
    simp [sumL]
theorem sm_perm {n : Nat} {s t : Nat → Nat} (h : Perm2 n s t) (f : Nat → Int) : sm (fun i => f (s i)) n = sm f n := by
  rw [sm_sumL, sm_sumL, ← sumL_map, sumL_perm f h.perm]

def Moved (M P : List (List Int)) (n : Nat) (s : Nat → Nat) : Prop := P.length = M.length ∧ ∀ q, q < M.length → ∀ c, c < n → rowv P q c = rowv M q (s c)
theorem Moved.ker {M P : List (List Int)} {n : Nat} {s t : Nat → Nat} (h : Perm2 n s t) (k : Moved M P n s) {v : Vec} (hv : IsKer P n v) : IsKer M n (fun c => v (t c)) := by
  intro q hq
  have h1 := hv q (by rw [k.1]; exact hq)
  unfold dotS at *
  rw [← sm_perm h, sm_congr (g := fun c => rowv P q c * v c) (fun c hc => by show rowv M q (s c) * v (t (s c)) = _; rw [h.ts c hc, k.2 q hq c hc])]
  exact h1

end Go.Proofs.YtkmjeegnijohmaaGreat

namespace Go.Proofs.YtkmjeegnijohmaaGreat
open Go.RowKit
set_option linter.unusedVariables false

theorem named_of {W : Nat} {l : List Int} (h : SetOk W l) : namedE W l = 0 := by
  have h1 : ascB l = true := by
    unfold ascB
    rw [decide_eq_true_eq]
    intro i hi
    rw [List.getElem?_eq_getElem (by omega), List.getElem?_eq_getElem (by omega)]
    exact List.pairwise_iff_getElem.1 h.1 i (i + 1) (by omega) (by omega) (by omega)
  unfold namedE
  rw [if_pos h1, if_pos]
  rw [List.all_eq_true]
  intro p hp
  have := h.2 p hp
  unfold inB; simp; omega
theorem pix_of {M : Mask} {S : List Int} (hM : okM M = true) (h : SetOk (colsM M) S) : pixE M S = 0 := by unfold pixE; rw [if_pos hM, named_of h]
theorem check_of {M : Mask} {y S : List Int} (hM : okM M = true) (hy : y.length = M.length) (hmil : milB y = true) (h : SetOk (colsM M) S) : checkE M y S = 0 := by
  unfold checkE; rw [if_pos hM, if_pos hy, if_pos hmil, pix_of hM h]

theorem sure_indep {M : Mask} {s : Int} (hM : okM M = true) (hs : sureV M = (s, 0)) {S : List Int} (hS : SetOk (colsM M) S) (hl : (S.length : Int) ≤ 2 * s) : rankF (colsF M S) S.length = S.length := by
  cases hd : decide (rankF (colsF M S) S.length = S.length)
  · exfalso
    obtain ⟨h1, h2⟩ := dep_spark (pix_of hM hS) hd
    have hpos := sure_nz hM h1
    unfold sureV at hs
    rw [if_neg (by omega), if_pos h1] at hs
    have : ((nzc (circV M).1 : Int) - 1) / 2 = s := congrArg Prod.fst hs
    omega
  · exact of_decide_eq_true hd
theorem sure_zero {M : Mask} {s : Int} (hM : okM M = true) (hs : sureV M = (s, 0)) {v : Vec} (hv : IsKer M (colsM M) v) (hl : ((suppL (colsM M) v).length : Int) ≤ 2 * s) {c : Nat} (hc : c < colsM M) : v c = 0 := by
  obtain ⟨hO, _⟩ := okM_ok hM
  have hS := suppL_ok (colsM M) v
  obtain ⟨S, hSe⟩ : ∃ S, S = suppL (colsM M) v := ⟨_, rfl⟩
  rw [← hSe] at hS hl
  have h0 : ∀ j, j < colsM M → (j : Int) ∉ S → v j = 0 := fun j hj hm => by
    rcases Classical.em (v j = 0) with c | c
    · exact c
    · exact absurd (by rw [hSe]; exact mem_suppL.2 ⟨hj, c⟩) hm
  have hk : IsKer (colsF M S) S.length (vec (S.map fun j => v j.toNat)) := (spread_ker hS).1 (hv.congr fun c hc => (spread_pick hS h0 hc).symm)
  have hr := sure_indep hM hs hS hl
  rcases Classical.em (v c = 0) with e | e
  · exact e
  · have hm : (c : Int) ∈ S := by rw [hSe]; exact mem_suppL.2 ⟨hc, e⟩
    obtain ⟨i, hi, hie⟩ := List.mem_iff_getElem.1 hm
    have hz := rank_zero (hO.cols S) hr hk hi
    have : vec (S.map fun j => v j.toNat) i = v c := by
      unfold vec; rw [List.getElem?_map, List.getElem?_eq_getElem hi, hie]; simp
    rw [this] at hz
    exact hz

theorem setok_eq {W : Nat} {S T : List Int} (hS : SetOk W S) (hT : SetOk W T) (h : ∀ c : Nat, (c : Int) ∈ S ↔ (c : Int) ∈ T) : S = T := by
  have key : ∀ {U : List Int}, SetOk W U → (U.map Int.toNat).map (fun c : Nat => (c : Int)) = U := fun {U} hU => by
    rw [List.map_map]
    conv => rhs; rw [← List.map_id U]
    exact List.map_congr_left fun y hy => by have := hU.2 y hy; show ((y.toNat : Nat) : Int) = y; omega
  have hp : ∀ {U : List Int}, SetOk W U → (U.map Int.toNat).Pairwise (· < ·) := fun {U} hU => by
    rw [List.pairwise_map]
    refine hU.1.imp_of_mem ?_
    intro a b ha hb hab
    have := hU.2 a ha
    have := hU.2 b hb
    omega
  have hm : ∀ {U : List Int}, SetOk W U → ∀ c, c ∈ U.map Int.toNat ↔ (c : Int) ∈ U := fun {U} hU c => by
    rw [List.mem_map]
    constructor
    · rintro ⟨y, hy, e⟩
      have := hU.2 y hy
      rw [show (c : Int) = y by omega]; exact hy
    · intro hc; exact ⟨_, hc, by omega⟩
  have e := asc_eq (hp hS) (hp hT) (fun c => by rw [hm hS, hm hT]; exact h c)
  rw [← key hS, ← key hT, e]

theorem suppL_size {l : List Int} : (suppL l.length (vec l)).length = sizeL l := by
  unfold suppL sizeL
  rw [List.length_map, ← List.countP_eq_length_filter]
  have e : l = (List.range l.length).map (vec l) := by
    refine List.ext_getElem (by simp) fun i h1 h2 => ?_
    rw [List.getElem_map, List.getElem_range, vec_lt h1]
  conv => rhs; rw [e]
  rw [List.countP_map]; rfl

theorem spreadI_F (W : Nat) (f : FitT) : spreadI W f = spreadF W f.1 (f.2.map (·.1)) f.1.length := by
  unfold spreadI spreadTo1 spreadF
  congr 1
  funext out i
  congr 1
  rw [List.getElem?_map]
  cases f.2[i]? <;> rfl
theorem dotV_sm {M : Mask} {W : Nat} (h : MaskOk M W) {q : Nat} (hq : q < M.length) (x : List Int) : vec (readV M x) q = dotS (rowv M q) (vec x) W := by
  unfold readV
  have : vec (M.map fun r => dotV r x) q = dotV M[q] x := by unfold vec; rw [List.getElem?_map, List.getElem?_eq_getElem hq]; rfl
  rw [this]
  unfold dotV dotS
  rw [h.wid _ (List.getElem_mem hq), rowv_lt hq]

theorem filterMap_one {α β : Type} [DecidableEq α] {g : α → Option β} {s : α} {d : β} : ∀ {l : List α}, l.Nodup → s ∈ l → (∀ x ∈ l, g x = if x = s then some d else none) → l.filterMap g = [d]
  | [], _, h, _ => by simp at h
  | x :: l, hn, hm, hg => by
    rw [List.nodup_cons] at hn
    have hx := hg x (by simp)
    by_cases e : x = s
    · subst e
      rw [if_pos rfl] at hx
      rw [List.filterMap_cons_some hx]
      have : l.filterMap g = [] := filterMap_none fun y hy => by
        rw [hg y (by simp [hy]), if_neg (fun e : y = x => hn.1 (e ▸ hy))]
      rw [this]
    · rw [if_neg e] at hx
      rw [List.filterMap_cons_none hx]
      refine filterMap_one hn.2 ?_ (fun y hy => hg y (by simp [hy]))
      rcases List.mem_cons.1 hm with h | h
      · exact absurd h.symm e
      · exact h

theorem fit_of {M : Mask} {s : Int} (hM : okM M = true) (hs : sureV M = (s, 0)) {d : List Int} (hd : d.length = colsM M) (hb : ∀ v ∈ d, -2000 ≤ v ∧ v ≤ 2000) (hl : (sizeL d : Int) ≤ s) :
    (fitF M (readV M d) (suppL (colsM M) (vec d))).bind (wholeOne (colsM M)) = some d := by
  obtain ⟨hO, _, _, hc1, hc10⟩ := okM_ok hM
  obtain ⟨hmil, hyl⟩ := readV_mil hM hb
  have hS := suppL_ok (colsM M) (vec d)
  have hSl : (suppL (colsM M) (vec d)).length = sizeL d := by rw [← hd]; exact suppL_size
  have hmem : ∀ i (hi : i < (suppL (colsM M) (vec d)).length), vec d ((suppL (colsM M) (vec d))[i]).toNat ≠ 0 := fun i hi => by
    have h1 := List.getElem_mem hi
    have h2 := hS.get hi
    rw [show (suppL (colsM M) (vec d))[i] = ((((suppL (colsM M) (vec d))[i]).toNat : Nat) : Int) by omega] at h1
    exact (mem_suppL.1 h1).2
  have h0 : ∀ j, j < colsM M → (j : Int) ∉ suppL (colsM M) (vec d) → vec d j = 0 := fun j hj hm => by
    rcases Classical.em (vec d j = 0) with c | c
    · exact c
    · exact absurd (mem_suppL.2 ⟨hj, c⟩) hm
  obtain ⟨S, hSe⟩ : ∃ S, S = suppL (colsM M) (vec d) := ⟨_, rfl⟩
  rw [← hSe] at hS hSl hmem h0 ⊢
  have hr := sure_indep hM hs hS (by rw [hSl]; omega)
  have hyl' : (readV M d).length = (colsF M S).length := by rw [colsF_len]; exact hyl
  have hlsys : ∀ q, q < (colsF M S).length → sm (fun i => rowv (colsF M S) q i * vec (S.map fun j => vec d j.toNat) i) S.length = vec (readV M d) q * 1 := by
    intro q hq
    rw [colsF_len] at hq
    rw [Int.mul_one, dotV_sm hO hq]
    have e1 := dot_spread (l := S.map fun j => vec d j.toNat) hS (rowv M q) S.length (Nat.le_refl _)
    rw [colsF_rowv, ← e1]
    unfold dotS
    exact sm_congr fun c hc => by rw [spread_pick hS h0 hc]
  have hmil' : ∀ v ∈ readV M d, -1000000 ≤ v ∧ v ≤ 1000000 := fun v hv => by have := mil_bnd6 hmil v hv; omega
  obtain ⟨k1, k2, k3⟩ := solve_of (hO.cols S) hyl' hmil' hr (l := vec (S.map fun j => vec d j.toNat)) (D := 1) (by decide) hlsys
  have hsv : solveV M S (readV M d) = solveP (withY (colsF M S) (readV M d)) S.length := by unfold solveV; rw [if_pos (check_of hM hyl hmil hS)]
  obtain ⟨P, hP⟩ : ∃ P, P = solveP (withY (colsF M S) (readV M d)) S.length := ⟨_, rfl⟩
  rw [← hP] at k1 k2 k3 hsv
  have hval : ∀ k (hk : k < P.1.length), P.1[k] = (vec d (S[k]'(by omega)).toNat, 1) := by
    intro k hk
    have hk' : k < S.length := by omega
    obtain ⟨c1, c2, c3, c4⟩ := k3 k hk'
    have e1 : ratAt P.1 k = P.1[k] := by unfold ratAt; rw [List.getElem?_eq_getElem hk]; rfl
    have e2 : vec (S.map fun j => vec d j.toNat) k = vec d (S[k]).toNat := by unfold vec; rw [List.getElem?_map, List.getElem?_eq_getElem hk']; rfl
    rw [e1, e2] at c1
    rw [e1] at c2 c4
    obtain ⟨⟨a, b⟩, hab⟩ : ∃ p, p = P.1[k] := ⟨_, rfl⟩
    rw [← hab] at c1 c2 c4 ⊢
    simp only [] at c1 c2 c4
    have hb1 : b = 1 := by
      have : Int.gcd a b = b.natAbs := Int.gcd_eq_natAbs_right ⟨vec d (S[k]).toNat, by rw [Int.mul_one] at c1; rw [c1, Int.mul_comm]⟩
      omega
    subst hb1
    rw [Int.mul_one, Int.mul_one] at c1
    rw [c1]
  have hfit : fitF M (readV M d) S = some (S, P.1) := by
    unfold fitF
    rw [hsv, if_pos]
    refine ⟨k1, List.all_eq_true.2 fun r hr => ?_⟩
    obtain ⟨k, hk, rfl⟩ := List.mem_iff_getElem.1 hr
    rw [hval k hk]
    simpa using hmem k (by omega)
  rw [hfit]
  show wholeOne (colsM M) (S, P.1) = some d
  unfold wholeOne
  rw [if_pos]
  · congr 1
    rw [spreadI_F]
    have e : P.1.map (·.1) = S.map fun j => vec d j.toNat := by
      refine List.ext_getElem (by simp [k2]) fun i h1 h2 => ?_
      rw [List.getElem_map, List.getElem_map, hval i (by simpa using h1)]
    show spreadF (colsM M) S (P.1.map (·.1)) S.length = d
    rw [e]
    refine List.ext_getElem (by rw [spreadF_len, hd]) fun c h1 h2 => ?_
    rw [spreadF_len] at h1
    have := spread_pick hS h0 h1
    rw [vec_lt (by rw [spreadF_len]; exact h1), vec_lt h2] at this
    exact this
  · rw [List.all_eq_true]
    intro r hr
    obtain ⟨k, hk, rfl⟩ := List.mem_iff_getElem.1 hr
    have hk : k < P.1.length := hk
    show wholeR (P.1[k]) = true
    rw [hval k hk]
    unfold wholeR inB
    have := vec_mem (P := fun v => -2000 ≤ v ∧ v ≤ 2000) (by decide) hb (S[k]'(by omega)).toNat
    simp; omega

theorem fit_to {M : Mask} {s : Int} (hM : okM M = true) (hs : sureV M = (s, 0)) {d : List Int} (hd : d.length = colsM M) (hb : ∀ v ∈ d, -2000 ≤ v ∧ v ≤ 2000) (hl : (sizeL d : Int) ≤ s) {S x : List Int} (hS : SetOk (colsM M) S) (hSl : (S.length : Int) ≤ s)
    (h : (fitF M (readV M d) S).bind (wholeOne (colsM M)) = some x) : S = suppL (colsM M) (vec d) := by
  obtain ⟨hO, _, _, hc1, hc10⟩ := okM_ok hM
  obtain ⟨hmil, hyl⟩ := readV_mil hM hb
  obtain ⟨f, hf, hw⟩ := Option.bind_eq_some_iff.1 h
  obtain ⟨rfl, h1, h2⟩ := fit_some hf
  have hyl' : (readV M d).length = (colsF M S).length := by rw [colsF_len]; exact hyl
  have hmil' : ∀ v ∈ readV M d, -1000000 ≤ v ∧ v ≤ 1000000 := fun v hv => by have := mil_bnd6 hmil v hv; omega
  have hsv : solveV M S (readV M d) = solveP (withY (colsF M S) (readV M d)) S.length := by unfold solveV; rw [if_pos (check_of hM hyl hmil hS)]
  rw [hsv] at h1 h2 hw
  obtain ⟨_, l, D, hD, k1, k2⟩ := solve_to (hO.cols S) hyl' hmil' h1
  have hlen := solveP_len h1
  obtain ⟨P, hP⟩ : ∃ P, P = (solveP (withY (colsF M S) (readV M d)) S.length).1 := ⟨_, rfl⟩
  rw [← hP] at h2 hw k2 hlen
  unfold wholeOne at hw
  split at hw
  · rename_i hall
    rw [List.all_eq_true] at hall
    -- the values are whole
    have hv : ∀ i, i < S.length → l i = vec (P.map (·.1)) i * D := fun i hi => by
      have hi' : i < P.length := by omega
      have e := k2 i hi
      have e1 : ratAt P i = P[i] := by unfold ratAt; rw [List.getElem?_eq_getElem hi']; rfl
      have e2 : vec (P.map (·.1)) i = (P[i]).1 := by unfold vec; rw [List.getElem?_map, List.getElem?_eq_getElem hi']; rfl
      have e3 := hall _ (List.getElem_mem hi')
      unfold wholeR at e3
      simp only [Bool.and_eq_true, decide_eq_true_eq] at e3
      rw [e1, e3.1, Int.mul_one] at e
      rw [e2, e]
    have hker : IsKer M (colsM M) (fun c => vec (spreadF (colsM M) S (P.map (·.1)) S.length) c - vec d c) := by
      intro q hq
      have e1 := k1 q (by rw [colsF_len]; exact hq)
      rw [dotV_sm hO hq, sm_congr (g := fun i => D * (pickV S (rowv M q) i * vec (P.map (·.1)) i)) (fun c hc => by rw [hv c hc, colsF_rowv]; grind), sm_mul, ← dot_spread hS (rowv M q) S.length (Nat.le_refl _), Int.mul_comm] at e1
      have e2 := Int.eq_of_mul_eq_mul_right (by omega) e1
      unfold dotS at e2 ⊢
      rw [sm_congr (g := fun c => rowv M q c * vec (spreadF (colsM M) S (P.map (·.1)) S.length) c + -1 * (rowv M q c * vec d c)) (fun c hc => by grind), sm_add, sm_mul, e2]
      omega
    have hsz : (suppL (colsM M) (vec d)).length = sizeL d := by rw [← hd]; exact suppL_size
    have hPl : (P.map (·.1)).length = S.length := by simp [hlen]
    have hnz : ∀ i, i < S.length → vec (P.map (·.1)) i ≠ 0 := fun i hi => by
      have hi' : i < P.length := by omega
      have e2 : vec (P.map (·.1)) i = (P[i]).1 := by unfold vec; rw [List.getElem?_map, List.getElem?_eq_getElem hi']; rfl
      rw [e2]; exact h2 _ (List.getElem_mem hi')
    have hsub : (suppL (colsM M) (fun c => vec (spreadF (colsM M) S (P.map (·.1)) S.length) c - vec d c)).length ≤ (S ++ suppL (colsM M) (vec d)).length := by
      have hk := suppL_ok (colsM M) (fun c => vec (spreadF (colsM M) S (P.map (·.1)) S.length) c - vec d c)
      refine nodup_sub (hk.1.imp (fun h => by omega)) fun y hy => ?_
      have hb := hk.2 y hy
      obtain ⟨c, rfl⟩ : ∃ c : Nat, y = (c : Int) := ⟨y.toNat, by omega⟩
      have h3 := (mem_suppL.1 hy).2
      rw [List.mem_append]
      by_cases e : vec d c = 0
      · left
        have h4 : vec (spreadF (colsM M) S (P.map (·.1)) S.length) c ≠ 0 := fun e2 => h3 (by rw [e, e2]; rfl)
        obtain ⟨i, hi, e3, _⟩ := (spread_nz hS hPl).1 h4
        rw [← e3]; exact List.getElem_mem hi
      · right; exact mem_suppL.2 ⟨by omega, e⟩
    rw [List.length_append, hsz] at hsub
    have hz := fun c (hc : c < colsM M) => sure_zero hM hs hker (by omega) hc
    refine setok_eq hS (suppL_ok _ _) fun c => ?_
    constructor
    · intro hc
      have hb := hS.2 _ hc
      refine mem_suppL.2 ⟨by omega, ?_⟩
      have := hz c (by omega)
      obtain ⟨i, hi, e⟩ := List.mem_iff_getElem.1 hc
      have h4 := (spread_nz hS hPl (c := c)).2 ⟨i, hi, e, hnz i hi⟩
      omega
    · intro hc
      obtain ⟨hc1, hc2⟩ := mem_suppL.1 hc
      have := hz c hc1
      have h4 : vec (spreadF (colsM M) S (P.map (·.1)) S.length) c ≠ 0 := by omega
      obtain ⟨i, hi, e3, _⟩ := (spread_nz hS hPl).1 h4
      rw [← e3]; exact List.getElem_mem hi
  · cases hw

theorem whole_only {M : Mask} {s k : Int} (hM : okM M = true) (hs : sureV M = (s, 0)) {d : List Int} (hd : d.length = colsM M) (hb : ∀ v ∈ d, -2000 ≤ v ∧ v ≤ 2000) (hl : (sizeL d : Int) ≤ k) (hk : k ≤ s) (hk0 : 0 ≤ k) (hkW : k ≤ colsM M) : wholeV M (readV M d) k = some d := by
  obtain ⟨hO, hm1, _, hc1, hc10⟩ := okM_ok hM
  obtain ⟨hmil, hyl⟩ := readV_mil hM hb
  have hS := suppL_ok (colsM M) (vec d)
  have hSl : (suppL (colsM M) (vec d)).length = sizeL d := by rw [← hd]; exact suppL_size
  have hcount : countE M (readV M d) k = 0 := by
    unfold countE
    rw [if_pos (check_of hM hyl hmil (S := []) ⟨List.Pairwise.nil, by simp⟩), if_pos]
    unfold inB; simp; omega
  have hr := sure_indep hM hs hS (by rw [hSl]; omega)
  have hrk : (suppL (colsM M) (vec d)).length ≤ M.length := by
    have := rank_le (hO.cols (suppL (colsM M) (vec d)))
    rw [hr, colsF_len] at this
    exact this
  have hF : wholeF M (readV M d) k.toNat = [d] := by
    unfold wholeF fitsF fitsTo
    rw [filterMap_flat]
    have e : ∀ j : Nat, ((comb (colsM M) j 0).filterMap (fitF M (readV M d))).filterMap (wholeOne (colsM M)) = (comb (colsM M) j 0).filterMap (fun S => (fitF M (readV M d) S).bind (wholeOne (colsM M))) := fun j => by rw [List.filterMap_filterMap]
    simp only [e]
    rw [← filterMap_flat]
    refine filterMap_one (s := suppL (colsM M) (vec d)) ?_ ?_ ?_
    · -- no set twice
      unfold List.Nodup
      rw [List.pairwise_flatMap]
      refine ⟨fun j _ => comb_nodup _ _ _, ?_⟩
      refine List.nodup_range.imp_of_mem ?_
      intro a b _ _ hab x hx y hy e
      subst e
      have h1 := comb_len _ _ _ x hx
      have h2 := comb_len _ _ _ x hy
      omega
    · rw [List.mem_flatMap]
      refine ⟨(suppL (colsM M) (vec d)).length, List.mem_range.2 ?_, ?_⟩
      · have hle : (suppL (colsM M) (vec d)).length ≤ colsM M := set_le hS
        omega
      · exact comb_mem (colsM M) 0 _ hS.1 (fun y hy => by have := hS.2 y hy; omega)
    · intro S hS2
      obtain ⟨j, hj, hS3⟩ := List.mem_flatMap.1 hS2
      have hjl := List.mem_range.1 hj
      have hSk := comb_ok hS3
      have hSl2 := comb_len _ _ _ S hS3
      split
      · rename_i e; subst e
        exact fit_of hM hs hd hb (by omega)
      · rename_i e
        cases hx : (fitF M (readV M d) S).bind (wholeOne (colsM M)) with
        | none => rfl
        | some x => exact absurd (fit_to hM hs hd hb (by omega) hSk (by omega) hx) e
  unfold wholeV
  rw [if_pos hcount, hF]

theorem sent_small {M : Mask} {p : List (List Int)} {s k : Int} {E : Nat} (hP : picsB M p = true) (hs : sureV M = (s, 0)) (hk : k ≤ s) (hk0 : 0 ≤ k) (hkW : k ≤ colsM M) (hE : 1 ≤ E)
    (hsz : ∀ v ∈ sizesF p, v ≤ k) : rightF M p E k = true := by
  obtain ⟨hM, hp1, hp60, hpp⟩ := picsB_ok hP
  obtain ⟨hO, hm1, _⟩ := okM_ok hM
  have key : ∀ j, j < p.length → decAt M k (encF M p E) (j + 1) = some (p[j]?.getD []) := by
    intro j
    induction j with
    | zero =>
      intro hj
      have e : (encF M p E)[0]?.getD (false, []) = (true, p[0]?.getD []) := by
        unfold encF; rw [List.getElem?_map, List.getElem?_range hj]
        simp [encAt]
      show nextF M k _ ((encF M p E)[0]?.getD (false, [])) = _
      have hp := picB_pos hM (hpp _ (List.getElem_mem hj))
      rw [e, List.getElem?_eq_getElem hj, Option.getD_some]
      unfold nextF
      rw [if_neg (by simp; intro h; rw [h] at hp; simp at hp), if_pos rfl]
    | succ j ih =>
      intro hj
      have ihj := ih (by omega)
      have e : (encF M p E)[j + 1]?.getD (false, []) = encAt M p E (j + 1) := by
        unfold encF; rw [List.getElem?_map, List.getElem?_range hj]; rfl
      show nextF M k (decAt M k (encF M p E) (j + 1)) ((encF M p E)[j + 1]?.getD (false, [])) = _
      rw [e, ihj]
      have hp := picB_pos hM (hpp _ (List.getElem_mem hj))
      have hpj := hpp _ (List.getElem_mem (show j < p.length by omega))
      have hpj1 := hpp _ (List.getElem_mem hj)
      unfold encAt
      rw [List.getElem?_eq_getElem hj, Option.getD_some]
      by_cases hkey : (j + 1) % E = 0
      · rw [if_pos hkey]
        unfold nextF
        rw [if_neg (by simp; intro h; rw [h] at hp; simp at hp), if_pos rfl]
      · rw [if_neg hkey, Nat.add_sub_cancel, List.getElem?_eq_getElem (show j < p.length by omega), Option.getD_some]
        obtain ⟨hcl, hcb⟩ := change_bnd hpj hpj1
        have hsj : (sizeL (changeF p[j] p[j + 1]) : Int) ≤ k := by
          refine hsz _ ?_
          unfold sizesF
          refine List.mem_map.2 ⟨j, List.mem_range.2 (by omega), ?_⟩
          rw [List.getElem?_eq_getElem (show j < p.length by omega), List.getElem?_eq_getElem hj]; rfl
        have hw := whole_only hM hs hcl hcb hsj hk hk0 hkW
        have hadd : addF (changeF p[j] p[j + 1]) p[j] = p[j + 1] := by
          have h1 : (p[j]).length = colsM M := by unfold picB at hpj; simp only [Bool.and_eq_true, decide_eq_true_eq] at hpj; exact hpj.1
          have h2 : (p[j + 1]).length = colsM M := by unfold picB at hpj1; simp only [Bool.and_eq_true, decide_eq_true_eq] at hpj1; exact hpj1.1
          refine List.ext_getElem (by rw [addF_len, hcl, h2]) fun c h3 h4 => ?_
          simp only [addF, List.getElem_map, List.getElem_range]
          rw [addF_len] at h3
          have e3 : vec (changeF p[j] p[j + 1]) c = vec p[j + 1] c - vec p[j] c := by
            rw [vec_lt h3]; simp only [changeF, List.getElem_map, List.getElem_range]
          rw [e3, vec_lt h4]; omega
        unfold nextF
        have hrl : (readV M (changeF p[j] p[j + 1])).length = M.length := by simp [readV]
        rw [if_neg (show ¬ (readV M (changeF p[j] p[j + 1])).length = 0 by omega), if_neg (by simp)]
        simp only []
        rw [hw]
        simp only []
        rw [hadd, if_pos hpj1]
  unfold rightF
  rw [List.all_eq_true]
  intro j hj
  rw [decide_eq_true_eq]
  exact key j (List.mem_range.1 hj)
end Go.Proofs.YtkmjeegnijohmaaGreat

namespace Go.Proofs.YtkmjeegnijohmaaGreat
open Go.RowKit
set_option linter.unusedVariables false

def TruthB (e : Ending) : Prop := ∃ b, e = .returned (.bool b)
theorem TruthB.mk (b : Bool) : TruthB (.returned (.bool b)) := ⟨b, rfl⟩

set_option maxHeartbeats 1000000 in
theorem l8fit_c (w : World) (a : Option Addr) (n cap : Nat) (M : Mask) (hn : M.length = n) (hm : n ≤ maxLen) (H : RowsAt w a M) :
    Calls Tryz.prog 6 #[.slice a n cap] w fun e w' => TruthB e ∧ w = w' := by
  have HN := hid hn
  have HH := hid H
  unfold maxLen at hm
  clear hn H
  go_enter Tryz.func6, Tryz.ntmps6
  go_wp2
  go_loop [7] (fun i => ∃ k : Nat, k ≤ n ∧ i = .int .i64 k) (fun i => n - (intOf i).toNat)
  case atStart => exact ⟨0, Nat.zero_le _, rfl⟩
  case round =>
    obtain ⟨k, hk, rfl⟩ := hrel
    by_cases hlt : k < n
    · obtain ⟨b, off, ra, rn, rc, rfl, hbs, hc, hrn, hrm, hri⟩ := HH.out k (by rw [HN.out]; exact hlt)
      clear hrn hri
      by_cases h1 : (6 : Int) < (rn : Int) <;> by_cases h2 : (rn : Int) ≤ 10 <;> by_cases h3 : (20 : Int) < (rn : Int)
      all_goals
        go_wp2
        first
          | (go_round
             case rel => exact ⟨k + 1, by omega, by go_num⟩
             case measure => simp [intOf]; omega)
          | (go_ret
             exact ⟨TruthB.mk _, rfl⟩)
    · go_wp2
      go_ret
      exact ⟨TruthB.mk _, rfl⟩

set_option maxHeartbeats 1000000 in
theorem l8lists_c (w : World) (a2 : Option Addr) (n2 cap2 : Nat) (L : List (List Int)) (hn2 : L.length = n2) (hm2 : n2 ≤ maxLen) (H2 : RowsAt w a2 L) (most : Nat) :
    Calls Tryz.prog 7 #[.slice a2 n2 cap2, .int .i64 most] w fun e w' => TruthB e ∧ w = w' := by
  have HN := hid hn2
  have HH := hid H2
  unfold maxLen at hm2
  clear hn2 H2
  go_enter Tryz.func7, Tryz.ntmps7
  go_wp2
  go_loop [9] (fun i => ∃ k : Nat, k ≤ n2 ∧ i = .int .i64 k) (fun i => n2 - (intOf i).toNat)
  case atStart => exact ⟨0, Nat.zero_le _, rfl⟩
  case round =>
    obtain ⟨k, hk, rfl⟩ := hrel
    by_cases hlt : k < n2
    · obtain ⟨b, off, ra, rn, rc, rfl, hbs, hc, hrn, hrm, hri⟩ := HH.out k (by rw [HN.out]; exact hlt)
      clear hrn hri
      by_cases h3 : (20 : Int) < (rn : Int)
      all_goals
        go_wp2
        first
          | (go_round
             case rel => exact ⟨k + 1, by omega, by go_num⟩
             case measure => simp [intOf]; omega)
          | (go_ret
             exact ⟨TruthB.mk _, rfl⟩)
    · obtain rfl : k = n2 := by omega
      by_cases h1 : (k : Int) ≤ (most : Int) <;> by_cases h2 : (60 : Int) < (k : Int) <;> by_cases h3 : (k : Int) < 64
      all_goals
        go_wp2
        go_ret
        exact ⟨TruthB.mk _, rfl⟩

end Go.Proofs.YtkmjeegnijohmaaGreat

namespace Go.Proofs.YtkmjeegnijohmaaGreat
open Go.ChangeShapes Go.WideShapes Go.ChangeAt Go.RowKit Go.Deep
set_option linter.unusedVariables false

def Fits64 (n : Int) : Prop := -9223372036854775808 ≤ n ∧ n ≤ 9223372036854775807
theorem fits64 {n : Int} (h : (Lit.int .i64 n).wf = true) : Fits64 n := by
  simpa [Fits64, Lit.wf, IntKind.min, IntKind.max, IntKind.signed, IntKind.bits] using h

theorem cell_plain {w : World} {a : Addr} {v : Value} (h : w.cell? a = some v) : a = ⟨a.block, a.off, none⟩ ∧ a.block < w.heap.size := by
  unfold World.cell? at h
  split at h
  · rename_i c _ _ hb
    obtain ⟨b, o, s⟩ := a
    cases s with
    | none => exact ⟨rfl, (Array.getElem?_eq_some_iff.1 hb).1⟩
    | some s => simp at h
  · simp at h

theorem add_plain (b o : Nat) (i : Nat) : (Addr.mk b o none).add i = ⟨b, o + i, none⟩ := by
  unfold Addr.add
  split
  · rename_i h; rw [h]; rfl
  · rfl

section
variable {H : Type} {enc : TypeId × Value → H} {P : Program} {w : World} {base : Nat} {held : Bool}

theorem ints_opened {e q : TypeId} {fuel : Nat} {a : Option Addr} {n cap : Nat} {x : DataW H × List MemPlace} (he : P.underlying e = some (.slice q)) (hq : P.underlying q = some (.int .i64)) (cq : P.cellsOf q = 1)
    (h : DataW.trod enc P w base (fun _ => true) held fuel e [.slice a n cap] = some x) : ∃ l : List Int, l.length = n ∧ n ≤ maxLen ∧ IntsAt w a l ∧ ∀ y ∈ l, Fits64 y := by
  rcases open_ints he hq cq h with ⟨hcs, _⟩ | ⟨x, l, c, zs, hcs, _, hl, hm, hz, _, hcell, hwz⟩
  · simp at hcs
    obtain ⟨rfl, rfl, rfl⟩ := hcs
    exact ⟨[], rfl, by decide, fun j hj => by simp at hj, fun y hy => by simp at hy⟩
  · simp at hcs
    obtain ⟨rfl, rfl, rfl⟩ := hcs
    simp only [if_true] at hz
    refine ⟨zs.take n, by rw [List.length_take]; omega, by omega, fun j hj => ?_, fun y hy => fits64 (hwz y (List.mem_of_mem_take hy))⟩
    rw [List.length_take] at hj
    have h0 := cell_plain (hcell 0 (by omega))
    simp only [Addr.add, if_true] at h0
    obtain ⟨b, o, s⟩ := x
    have hs : s = none := by have := h0.1; simp at this; exact this
    subst hs
    refine ⟨b, o, rfl, h0.2, ?_⟩
    have := hcell j (by omega)
    rw [add_plain] at this
    rw [this]
    simp [List.getElem?_take, show j < n by omega, List.getD]

theorem arg_rows {r : Reach} {b0 : Nat} {t e q : TypeId} {v : Value} {d : DataW H} {p : List MemPlace} (ht : P.underlying t = some (.slice e)) (ce : P.cellsOf e = 1) (he : P.underlying e = some (.slice q)) (hq : P.underlying q = some (.int .i64)) (cq : P.cellsOf q = 1)
    (hv : Value.okWide P w r b0 t v) (h : DataW.Trod enc P w base (fun _ => true) held t v d p) : ∃ a n cap, ∃ l : List (List Int), v = .slice a n cap ∧ l.length = n ∧ n ≤ maxLen ∧ RowsAt w a l ∧ ∀ y ∈ l, ∀ z ∈ y, Fits64 z := by
  obtain ⟨a, n, cap, rfl⟩ := okWide_slice ht hv
  obtain ⟨fuel, hf⟩ := h
  rcases open_slice1 ht ce (by simpa [Value.cells] using hf) with ⟨hcs, _⟩ | ⟨x, len, c', m, nn, V, D, Pl, hcs, _, hl, hm, hmm, _, hx⟩
  · simp at hcs
    obtain ⟨rfl, rfl, rfl⟩ := hcs
    exact ⟨none, 0, 0, [], rfl, rfl, by decide, fun j hj => by simp at hj, fun y hy => by simp at hy⟩
  simp at hcs
  obtain ⟨rfl, rfl, rfl⟩ := hcs
  simp only [if_true] at hmm
  have each : ∀ i, i < n → ∃ y : List Int × Option Addr × Nat × Nat, w.cell? (x.add i) = some (.slice y.2.1 y.2.2.1 y.2.2.2) ∧ y.1.length = y.2.2.1 ∧ y.2.2.1 ≤ maxLen ∧ IntsAt w y.2.1 y.1 ∧ (∀ z ∈ y.1, Fits64 z) := by
    intro i hi
    obtain ⟨hc, t0⟩ := hx i (by omega)
    have hsl : ∃ ra rn rc, V i = .slice ra rn rc := by
      rcases open_ints he hq cq t0 with ⟨hcs, _⟩ | ⟨x, l, c, zs, hcs, _⟩
      · simp at hcs; exact ⟨_, _, _, hcs⟩
      · simp at hcs; exact ⟨_, _, _, hcs⟩
    obtain ⟨ra, rn, rc, hV⟩ := hsl
    rw [hV] at hc t0
    obtain ⟨l, q1, q2, q3, q4⟩ := ints_opened he hq cq t0
    exact ⟨(l, ra, rn, rc), hc, q1, q2, q3, q4⟩
  haveI : Inhabited (List Int × Option Addr × Nat × Nat) := ⟨([], none, 0, 0)⟩
  obtain ⟨y, hy⟩ := choose_lt each
  refine ⟨some x, n, cap, (List.range n).map fun i => (y i).1, rfl, by simp, by omega, fun j hj => ?_, fun z hz => ?_⟩
  · have hjn : j < n := by simpa using hj
    have hp := cell_plain (hy 0 (by omega)).1
    simp only [Addr.add, if_true] at hp
    obtain ⟨b, o, s⟩ := x
    have hs' : s = none := by have := hp.1; simp at this; exact this
    subst hs'
    obtain ⟨r0, r3, r4, r5, r6⟩ := hy j hjn
    rw [add_plain] at r0
    refine ⟨b, o, (y j).2.1, (y j).2.2.1, (y j).2.2.2, rfl, hp.2, r0, ?_, r4, ?_⟩ <;> simp only [List.getElem_map, List.getElem_range] <;> assumption
  · obtain ⟨i, hi, rfl⟩ := List.mem_map.1 hz
    exact (hy i (List.mem_range.1 hi)).2.2.2.2
end
end Go.Proofs.YtkmjeegnijohmaaGreat

namespace Go.Proofs.YtkmjeegnijohmaaGreat
open Go.ChangeShapes Go.WideShapes Go.ChangeAt Go.RowKit Go.Deep
set_option linter.unusedVariables false

section
variable {H : Type} {enc : TypeId × Value → H} {P : Program} {w : World} {base : Nat} {held : Bool}
theorem slice_cap {t e : TypeId} {a : Option Addr} {n cap : Nat} {d : DataW H} {p : List MemPlace} (ht : P.underlying t = some (.slice e))
    (h : DataW.Trod enc P w base (fun _ => true) held t (.slice a n cap) d p) : n ≤ cap := by
  obtain ⟨fuel, hf⟩ := h
  rcases Go.Deep.open_slice ht (by simpa [Value.cells] using hf) with ⟨hcs, _⟩ | ⟨x, len, c', m, nn, D, Pl, hcs, _, hl, _⟩
  · simp at hcs
    omega
  · simp at hcs
    omega

end
end Go.Proofs.YtkmjeegnijohmaaGreat

namespace Go.Proofs.YtkmjeegnijohmaaGreat
open Go.RowKit
set_option linter.unusedVariables false

theorem circV_two {M : Mask} (hM : okM M = true) : (circV M).2 = 0 ∨ (circV M).2 = 8 := by
  cases hc : circP M (colsM M) with
  | nil => rw [circV_none hM hc]; exact .inr rfl
  | cons c t => rw [circV_cons hM hc]; exact .inl rfl
theorem sure_ok {M : Mask} (hM : okM M = true) : (sureV M).2 = 0 := by
  unfold sureV
  rcases circV_two hM with h | h
  · rw [if_neg (by omega), if_pos h]
  · rw [if_pos h]
def smallTo (l : List Int) (k : Int) (b : Bool) (t : Nat) : Bool := b && (l.take t).all (fun v => decide (v ≤ k))
theorem smallTo_succ {l : List Int} {k : Int} {b : Bool} {t : Nat} (h : t < l.length) : smallTo l k b (t + 1) = (smallTo l k b t && decide (l[t] ≤ k)) := by
  unfold smallTo
  rw [List.take_succ_eq_append_getElem h, List.all_append, Bool.and_assoc]
  simp
def SentCase (E : Int) (B : Bool) (every : Int) (n q : Nat) : Prop := (¬ E = 0) ∨ (E = 0 ∧ B = false) ∨ (E = 0 ∧ B = true ∧ (n : Int) < every) ∨ (E = 0 ∧ B = true ∧ every ≤ (n : Int) ∧ every ≤ (q : Int))
theorem sent_ok {M : Mask} {p : List (List Int)} {every k : Int} {n : Nat} (hn : p.length = n) (h : sparsE M p k = 0) :
    ∃ q : Nat, sparsV M p k = (q : Int) ∧ 1 ≤ q ∧ q ≤ n ∧ n ≤ 60 ∧ sentE M p q k = 0 ∧ sentB M p q k = true ∧ sentE M p 1 k = 0 ∧ sentB M p 1 k = true ∧ SentCase (sentE M p every k) (sentB M p every k) every n q ∧
      (sureV M).2 = 0 ∧ szE M p = 0 ∧ szL M p = sizesF p ∧ (sizesF p).length = n - 1 ∧ (smallTo (sizesF p) k (decide (k ≤ (sureV M).1)) (n - 1) = true → sentE M p every k = 0 → sentB M p every k = true) := by
  have hP : picsB M p = true := by
    unfold sparsE at h
    split at h
    · assumption
    · cases h
  have hk : inB k 0 (colsM M) = true := by
    unfold sparsE at h
    rw [if_pos hP] at h
    split at h
    · assumption
    · cases h
  obtain ⟨hM, hp1, hp60, hpp⟩ := picsB_ok hP
  obtain ⟨k1, k2⟩ := spars_pos hP k p.length hp1
  have k3 := spars_le M p k p.length
  have hin : ∀ e : Nat, 1 ≤ e → e ≤ 60 → inB (e : Int) 1 60 = true := fun e h1 h2 => by unfold inB; simp; omega
  have hsE : ∀ e : Nat, 1 ≤ e → e ≤ 60 → sentE M p e k = 0 := fun e h1 h2 => by unfold sentE; rw [if_pos hP, if_pos ⟨hin e h1 h2, hk⟩]
  have hsB : ∀ e : Nat, 1 ≤ e → e ≤ 60 → rightF M p e k = true → sentB M p e k = true := fun e h1 h2 h3 => by unfold sentB; rw [hsE e h1 h2, Int.toNat_natCast, h3]; rfl
  have hk' : 0 ≤ k ∧ k ≤ colsM M := by unfold inB at hk; simpa using hk
  have hev : sentE M p every k = 0 → 1 ≤ every ∧ every ≤ 60 := fun he => by
    unfold sentE at he
    rw [if_pos hP] at he
    split at he
    · rename_i hc; have := hc.1; unfold inB at this; simpa using this
    · cases he
  refine ⟨sparsTo M p k p.length, by unfold sparsV; rw [if_pos h], k1, by omega, by omega, hsE _ k1 (by omega), hsB _ k1 (by omega) k2, hsE 1 (by omega) (by omega), hsB 1 (by omega) (by omega) (right_one hP k), ?_, sure_ok hM, by unfold szE; rw [if_pos hP], by unfold szL; rw [if_pos hP], by rw [sizesF_len, hn], fun hs he => ?_⟩
  · by_cases c1 : sentE M p every k = 0
    · right
      cases c2 : sentB M p every k
      · exact .inl ⟨c1, rfl⟩
      · right
        by_cases c3 : every ≤ (n : Int)
        · right
          refine ⟨c1, rfl, c3, ?_⟩
          have h1 := hev c1
          obtain ⟨e, rfl⟩ : ∃ e : Nat, every = (e : Int) := ⟨every.toNat, by omega⟩
          have hr : rightF M p e k = true := by
            unfold sentB at c2
            rw [c1, Int.toNat_natCast] at c2
            simpa using c2
          have := spars_max (k := k) (show 1 ≤ e by omega) (show e ≤ p.length by omega) hr
          omega
        · exact .inl ⟨c1, rfl, by omega⟩
    · exact .inl c1
  · have h1 := hev he
    obtain ⟨e, rfl⟩ : ∃ e : Nat, every = (e : Int) := ⟨every.toNat, by omega⟩
    unfold smallTo at hs
    rw [List.take_of_length_le (by rw [sizesF_len]; omega), Bool.and_eq_true, decide_eq_true_eq, List.all_eq_true] at hs
    refine hsB e (by omega) (by omega) (sent_small hP (s := (sureV M).1) (by rw [← sure_ok hM]) hs.1 hk'.1 hk'.2 (by omega) fun v hv => ?_)
    simpa using hs.2 v hv

set_option maxRecDepth 100000 in
set_option maxHeartbeats 4000000 in
theorem streamSent_c (w : World) (a : Option Addr) (n cap : Nat) (M : Mask) (hn : M.length = n) (hm : n ≤ maxLen) (H : RowsAt w a M) (_w0 : ∀ y ∈ M, ∀ z ∈ y, Fits64 z)
    (a1 : Option Addr) (n1 c1 : Nat) (p : List (List Int)) (hn1 : p.length = n1) (hm1 : n1 ≤ maxLen) (H1 : RowsAt w a1 p) (_w1 : ∀ y ∈ p, ∀ z ∈ y, Fits64 z)
    (every : Int) (_w2 : Fits64 every) (k : Int) (_w3 : Fits64 k) (hcap : n1 ≤ c1) :
    Calls Tryz.prog 3 #[.slice a n cap, .slice a1 n1 c1, .int .i64 every, .int .i64 k] w fun e w' => e = .returned (.bool true) ∧ Below w.heap.size w w' := by
  clear _w0 _w1 _w2 _w3
  have HFit := hid (l8fit_c w a n cap M hn hm H)
  have HL1 := hid (l8lists_c w a1 n1 c1 p hn1 hm1 H1 7)
  have HSS := hid (fun (X : World) (hX : Below w.heap.size w X) (e : Int) => sSent_c X a a1 n cap n1 c1 M p e k hn hm (H.below hX) hn1 hm1 (H1.below hX))
  have HRS := hid (fun (X : World) (hX : Below w.heap.size w X) => r8Sent_c X a a1 n cap n1 c1 M p every k hn hm (H.below hX) hn1 hm1 (H1.below hX))
  have HSP := hid (fun (X : World) (hX : Below w.heap.size w X) => sSparsest_c X a a1 n cap n1 c1 M p k hn hm (H.below hX) hn1 hm1 (H1.below hX))
  have HRP := hid (fun (X : World) (hX : Below w.heap.size w X) => r8Sparsest_c X a a1 n cap n1 c1 M p k hn hm (H.below hX) hn1 hm1 (H1.below hX))
  have HSU := hid (fun (X : World) (hX : Below w.heap.size w X) => r4Sure_c X a n cap M hn hm (H.below hX))
  have HSZ := hid (fun (X : World) (hX : Below w.heap.size w X) => sSizesU_c X a a1 n cap n1 c1 M p hn hm (H.below hX) hn1 hm1 hcap (H1.below hX))
  have HOK := hid (fun (h : sparsE M p k = 0) => sent_ok (every := every) hn1 h)
  clear hn H hn1 H1 hcap
  unfold maxLen at hm hm1
  have HS0 := hid (HSS.out w (Below.refl _ _) every)
  clear HS0
  obtain ⟨PV, hPV⟩ : ∃ x, x = sparsV M p k := ⟨_, rfl⟩
  obtain ⟨PE, hPE⟩ : ∃ x, x = sparsE M p k := ⟨_, rfl⟩
  rw [← hPV, ← hPE] at HSP HRP HOK
  have HS1 := hid (fun (X : World) (hX : Below w.heap.size w X) => HSS.out X hX every)
  obtain ⟨SE, hSE⟩ : ∃ x, x = sentE M p every k := ⟨_, rfl⟩
  obtain ⟨SB, hSB⟩ : ∃ x, x = sentB M p every k := ⟨_, rfl⟩
  rw [← hSE, ← hSB] at HS1 HRS HOK
  obtain ⟨⟨u1, u2⟩, hU⟩ : ∃ x, x = sureV M := ⟨_, rfl⟩
  rw [← hU] at HSU HOK
  simp only [] at HSU HOK
  have q1 : (SB != SB) = false := by simp
  have q2 : (SE != SE) = false := by simp
  have q3 : (PV != PV) = false := by simp
  have q4 : (PE != PE) = false := by simp
  clear hPV hPE hSE hSB hU
  go_enter Tryz.func3, Tryz.ntmps3
  go_wp2_with first
    | (go_at_call 6; refine HFit.out.mono ?_; rintro e w1 ⟨⟨b1, rfl⟩, rfl⟩; cases b1)
    | (go_at_call 8; refine (awake8_c _).mono ?_; rintro e w2 ⟨rfl, hb2⟩)
    | (go_at_call 7; refine HL1.out.mono ?_; rintro e w1 ⟨⟨b3, rfl⟩, rfl⟩; cases b3 <;> refine Stop.of ?_)
  · go_ret
    exact ⟨rfl, hb2⟩
  · refine Stop.go ?_
    go_wp2_with first
      | (go_at_call 8; refine (awake8_c _).mono ?_; rintro e w2 ⟨rfl, hb2⟩)
    go_ret
    exact ⟨rfl, hb2⟩
  · refine Stop.go ?_
    clear HFit HL1
    go_wp2_with (go_at_call 9; refine (HS1.out _ (Below.refl _ _)).mono ?_; rintro e w2 ⟨rfl, hb2⟩; refine Stop.of ?_)
    refine Stop.go ?_
    have HB2 := hid hb2
    clear hb2 HS1
    go_wp2_with (go_at_call 10; refine (HRS.out _ HB2.out).mono ?_; rintro e w3 ⟨rfl, hb3⟩; refine Stop.of ?_)
    refine Stop.go ?_
    have HB3 := hid (chain HB2.out hb3)
    clear hb3 HRS HB2
    go_wp2_with (go_at_call 11; refine (HSP.out _ HB3.out).mono ?_; rintro e w4 ⟨rfl, hb4⟩; refine Stop.of ?_)
    refine Stop.go ?_
    have HB4 := hid (chain HB3.out hb4)
    clear hb4 HSP HB3
    go_wp2_with (go_at_call 12; refine (HRP.out _ HB4.out).mono ?_; rintro e w5 ⟨rfl, hb5⟩; refine Stop.of ?_)
    refine Stop.go ?_
    have HB5 := hid (chain HB4.out hb5)
    clear hb5 HRP HB4
    by_cases hE0 : PE = 0
    rotate_left
    · have hEn : (PE != 0) = true := by simp [hE0]
      clear hE0 HOK
      go_wp2_with first
        | (go_at_call 8; refine (awake8_c _).mono ?_; rintro e w12 ⟨rfl, hb12⟩)
      go_ret
      exact ⟨rfl, chain HB5.out hb12⟩
    · obtain ⟨q, rfl, hq1, hqn, hn60, e1, e2, e3, e4, hcs, e5, e6, e7, e8, hsm⟩ := HOK.out hE0
      subst hE0 e5
      have HQ := hid (fun (X : World) (hX : Below w.heap.size w X) => HSS.out X hX (q : Int))
      have H1S := hid (fun (X : World) (hX : Below w.heap.size w X) => HSS.out X hX 1)
      rw [e1, e2] at HQ
      rw [e3, e4] at H1S
      rw [e6, e7] at HSZ
      obtain ⟨Z, hZ⟩ : ∃ x, x = sizesF p := ⟨_, rfl⟩
      rw [← hZ] at HSZ hsm e8
      rw [e8] at HSZ
      have HCS := hid hcs
      have HSM := hid hsm
      have HZL := hid e8
      have g1 : (1 : Int) ≤ (q : Int) := by omega
      have g2 : (q : Int) ≤ (n1 : Int) := by omega
      have g3 : ¬ n1 < q := by omega
      have g4 : ¬ (q : Int) < 1 := by omega
      have g5 : ¬ q = 0 := by omega
      clear hZ e1 e2 e3 e4 e6 e7 e8 hcs hsm HOK HSS
      go_wp2_with (go_at_call 9; refine (HQ.out _ HB5.out).mono ?_; rintro e w6 ⟨rfl, hb6⟩; refine Stop.of ?_)
      refine Stop.go ?_
      have HB6 := hid (chain HB5.out hb6)
      clear hb6 HQ HB5
      go_wp2_with (go_at_call 9; refine (H1S.out _ HB6.out).mono ?_; rintro e w7 ⟨rfl, hb7⟩; refine Stop.of ?_)
      refine Stop.go ?_
      have HB7 := hid (chain HB6.out hb7)
      clear hb7 H1S HB6
      obtain ⟨m, hm0⟩ : ∃ m, m = n1 - 1 := ⟨_, rfl⟩
      rw [← hm0] at HSZ HSM HZL
      have hm60 : m ≤ 60 := by omega
      clear hm0
      obtain ⟨B0, hB0⟩ : ∃ B, B = decide (k ≤ u1) := ⟨_, rfl⟩
      rw [← hB0] at HSM
      have HB0 := hid hB0.symm
      clear hB0
      have hcs := HCS.out
      unfold SentCase at hcs
      clear HCS
      rcases hcs with hc | ⟨rfl, rfl⟩ | ⟨rfl, rfl, hc⟩ | ⟨rfl, rfl, hc, hc2⟩
      · have z1 : (SE == 0) = false := by simpa using hc
        have z2 : (SE != 0) = true := by simpa using hc
        clear hc HSM
        go_wp2_with (go_at_call 13; refine (HSU.out _ HB7.out).mono ?_; rintro e w8 ⟨rfl, hb8⟩; refine Stop.of ?_)
        refine Stop.go ?_
        have HB8 := hid (chain HB7.out hb8)
        clear hb8 HSU
        go_wp2_with (go_at_call 14; refine (HSZ.out _ HB8.out).mono ?_; rintro e w9 ⟨va, vc, rfl, _, hz, hb9⟩; refine Stop.of ?_)
        refine Stop.go ?_
        have HB9 := hid (chain HB8.out hb9)
        have HZI := hid hz
        clear hb9 hz HSZ
        have hb0 := HB0.out
        go_wp2
        go_loopw [23, 165] (fun s i wr => ∃ t : Nat, t ≤ m ∧ i = .int .i64 t ∧ s = .bool (smallTo Z k B0 t) ∧ Below w9.heap.size w9 wr) (fun _ i _ => m - (intOf i).toNat)
        case atStart => exact ⟨0, Nat.zero_le _, rfl, by unfold smallTo; simp, Below.refl _ _⟩
        case round =>
          obtain ⟨t, ht, rfl, rfl, hbk⟩ := hrel
          by_cases hlt : t < m
          · have htZ : t < Z.length := by rw [HZL.out]; exact hlt
            have hst := smallTo_succ (l := Z) (k := k) (b := B0) htZ
            obtain ⟨zb, zo, rfl, hzb, hzc⟩ := (HZI.out.below hbk) t htZ
            rw [List.getElem?_eq_getElem htZ, Option.getD_some] at hzc
            obtain ⟨v, hv⟩ : ∃ v, v = Z[t]'htZ := ⟨_, rfl⟩
            rw [← hv] at hst hzc
            obtain ⟨S, hS⟩ : ∃ S, S = smallTo Z k B0 t := ⟨_, rfl⟩
            rw [← hS] at hst ⊢
            have HST := hid hst
            have HBK := hid hbk
            clear hst hbk hv hS
            cases S
            · go_wp2
              exact ⟨⟨t + 1, by omega, by go_num, by rw [HST.out]; rfl, HBK.out⟩, by simp [intOf]; omega⟩
            · go_wp2
              exact ⟨⟨t + 1, by omega, by go_num, by rw [HST.out]; simp, HBK.out⟩, by simp [intOf]; omega⟩
          · obtain rfl : m = t := by omega
            obtain ⟨S, hS⟩ : ∃ S, S = smallTo Z k B0 m := ⟨_, rfl⟩
            rw [← hS]
            have HS := hid hS
            clear hS
            cases S
            all_goals
              go_wp2_with first
                | (go_at_call 8; refine (awake8_c _).mono ?_; rintro e w12 ⟨rfl, hb12⟩)
              go_ret
              exact ⟨rfl, chain (chain HB9.out hbk) hb12⟩
      · have HS' := hid (show smallTo Z k B0 m = false by
          cases h : smallTo Z k B0 m
          · rfl
          · have := HSM.out h rfl; cases this)
        go_wp2_with (go_at_call 13; refine (HSU.out _ HB7.out).mono ?_; rintro e w8 ⟨rfl, hb8⟩; refine Stop.of ?_)
        refine Stop.go ?_
        have HB8 := hid (chain HB7.out hb8)
        clear hb8 HSU
        go_wp2_with (go_at_call 14; refine (HSZ.out _ HB8.out).mono ?_; rintro e w9 ⟨va, vc, rfl, _, hz, hb9⟩; refine Stop.of ?_)
        refine Stop.go ?_
        have HB9 := hid (chain HB8.out hb9)
        have HZI := hid hz
        clear hb9 hz HSZ
        have hb0 := HB0.out
        go_wp2
        go_loopw [23, 165] (fun s i wr => ∃ t : Nat, t ≤ m ∧ i = .int .i64 t ∧ s = .bool (smallTo Z k B0 t) ∧ Below w9.heap.size w9 wr) (fun _ i _ => m - (intOf i).toNat)
        case atStart => exact ⟨0, Nat.zero_le _, rfl, by unfold smallTo; simp, Below.refl _ _⟩
        case round =>
          obtain ⟨t, ht, rfl, rfl, hbk⟩ := hrel
          by_cases hlt : t < m
          · have htZ : t < Z.length := by rw [HZL.out]; exact hlt
            have hst := smallTo_succ (l := Z) (k := k) (b := B0) htZ
            obtain ⟨zb, zo, rfl, hzb, hzc⟩ := (HZI.out.below hbk) t htZ
            rw [List.getElem?_eq_getElem htZ, Option.getD_some] at hzc
            obtain ⟨v, hv⟩ : ∃ v, v = Z[t]'htZ := ⟨_, rfl⟩
            rw [← hv] at hst hzc
            obtain ⟨S, hS⟩ : ∃ S, S = smallTo Z k B0 t := ⟨_, rfl⟩
            rw [← hS] at hst ⊢
            have HST := hid hst
            have HBK := hid hbk
            clear hst hbk hv hS
            cases S
            · go_wp2
              exact ⟨⟨t + 1, by omega, by go_num, by rw [HST.out]; rfl, HBK.out⟩, by simp [intOf]; omega⟩
            · go_wp2
              exact ⟨⟨t + 1, by omega, by go_num, by rw [HST.out]; simp, HBK.out⟩, by simp [intOf]; omega⟩
          · obtain rfl : m = t := by omega
            obtain ⟨S, hS⟩ : ∃ S, S = smallTo Z k B0 m := ⟨_, rfl⟩
            rw [← hS]
            have HS := hid hS
            clear hS
            obtain rfl : S = false := by rw [HS.out, HS'.out]
            go_wp2_with first
              | (go_at_call 8; refine (awake8_c _).mono ?_; rintro e w12 ⟨rfl, hb12⟩)
            go_ret
            exact ⟨rfl, chain (chain HB9.out hbk) hb12⟩
      · have hc' : ¬ every ≤ (n1 : Int) := by omega
        go_wp2_with (go_at_call 13; refine (HSU.out _ HB7.out).mono ?_; rintro e w8 ⟨rfl, hb8⟩; refine Stop.of ?_)
        refine Stop.go ?_
        have HB8 := hid (chain HB7.out hb8)
        clear hb8 HSU
        go_wp2_with (go_at_call 14; refine (HSZ.out _ HB8.out).mono ?_; rintro e w9 ⟨va, vc, rfl, _, hz, hb9⟩; refine Stop.of ?_)
        refine Stop.go ?_
        have HB9 := hid (chain HB8.out hb9)
        have HZI := hid hz
        clear hb9 hz HSZ
        have hb0 := HB0.out
        go_wp2
        go_loopw [23, 165] (fun s i wr => ∃ t : Nat, t ≤ m ∧ i = .int .i64 t ∧ s = .bool (smallTo Z k B0 t) ∧ Below w9.heap.size w9 wr) (fun _ i _ => m - (intOf i).toNat)
        case atStart => exact ⟨0, Nat.zero_le _, rfl, by unfold smallTo; simp, Below.refl _ _⟩
        case round =>
          obtain ⟨t, ht, rfl, rfl, hbk⟩ := hrel
          by_cases hlt : t < m
          · have htZ : t < Z.length := by rw [HZL.out]; exact hlt
            have hst := smallTo_succ (l := Z) (k := k) (b := B0) htZ
            obtain ⟨zb, zo, rfl, hzb, hzc⟩ := (HZI.out.below hbk) t htZ
            rw [List.getElem?_eq_getElem htZ, Option.getD_some] at hzc
            obtain ⟨v, hv⟩ : ∃ v, v = Z[t]'htZ := ⟨_, rfl⟩
            rw [← hv] at hst hzc
            obtain ⟨S, hS⟩ : ∃ S, S = smallTo Z k B0 t := ⟨_, rfl⟩
            rw [← hS] at hst ⊢
            have HST := hid hst
            have HBK := hid hbk
            clear hst hbk hv hS
            cases S
            · go_wp2
              exact ⟨⟨t + 1, by omega, by go_num, by rw [HST.out]; rfl, HBK.out⟩, by simp [intOf]; omega⟩
            · go_wp2
              exact ⟨⟨t + 1, by omega, by go_num, by rw [HST.out]; simp, HBK.out⟩, by simp [intOf]; omega⟩
          · obtain rfl : m = t := by omega
            obtain ⟨S, hS⟩ : ∃ S, S = smallTo Z k B0 m := ⟨_, rfl⟩
            rw [← hS]
            have HS := hid hS
            clear hS
            cases S
            all_goals
              go_wp2_with first
                | (go_at_call 8; refine (awake8_c _).mono ?_; rintro e w12 ⟨rfl, hb12⟩)
              go_ret
              exact ⟨rfl, chain (chain HB9.out hbk) hb12⟩
      · have hc' : ¬ (q : Int) < every := by omega
        go_wp2_with (go_at_call 13; refine (HSU.out _ HB7.out).mono ?_; rintro e w8 ⟨rfl, hb8⟩; refine Stop.of ?_)
        refine Stop.go ?_
        have HB8 := hid (chain HB7.out hb8)
        clear hb8 HSU
        go_wp2_with (go_at_call 14; refine (HSZ.out _ HB8.out).mono ?_; rintro e w9 ⟨va, vc, rfl, _, hz, hb9⟩; refine Stop.of ?_)
        refine Stop.go ?_
        have HB9 := hid (chain HB8.out hb9)
        have HZI := hid hz
        clear hb9 hz HSZ
        have hb0 := HB0.out
        go_wp2
        go_loopw [23, 165] (fun s i wr => ∃ t : Nat, t ≤ m ∧ i = .int .i64 t ∧ s = .bool (smallTo Z k B0 t) ∧ Below w9.heap.size w9 wr) (fun _ i _ => m - (intOf i).toNat)
        case atStart => exact ⟨0, Nat.zero_le _, rfl, by unfold smallTo; simp, Below.refl _ _⟩
        case round =>
          obtain ⟨t, ht, rfl, rfl, hbk⟩ := hrel
          by_cases hlt : t < m
          · have htZ : t < Z.length := by rw [HZL.out]; exact hlt
            have hst := smallTo_succ (l := Z) (k := k) (b := B0) htZ
            obtain ⟨zb, zo, rfl, hzb, hzc⟩ := (HZI.out.below hbk) t htZ
            rw [List.getElem?_eq_getElem htZ, Option.getD_some] at hzc
            obtain ⟨v, hv⟩ : ∃ v, v = Z[t]'htZ := ⟨_, rfl⟩
            rw [← hv] at hst hzc
            obtain ⟨S, hS⟩ : ∃ S, S = smallTo Z k B0 t := ⟨_, rfl⟩
            rw [← hS] at hst ⊢
            have HST := hid hst
            have HBK := hid hbk
            clear hst hbk hv hS
            cases S
            · go_wp2
              exact ⟨⟨t + 1, by omega, by go_num, by rw [HST.out]; rfl, HBK.out⟩, by simp [intOf]; omega⟩
            · go_wp2
              exact ⟨⟨t + 1, by omega, by go_num, by rw [HST.out]; simp, HBK.out⟩, by simp [intOf]; omega⟩
          · obtain rfl : m = t := by omega
            obtain ⟨S, hS⟩ : ∃ S, S = smallTo Z k B0 m := ⟨_, rfl⟩
            rw [← hS]
            have HS := hid hS
            clear hS
            cases S
            all_goals
              go_wp2_with first
                | (go_at_call 8; refine (awake8_c _).mono ?_; rintro e w12 ⟨rfl, hb12⟩)
              go_ret
              exact ⟨rfl, chain (chain HB9.out hbk) hb12⟩
end Go.Proofs.YtkmjeegnijohmaaGreat

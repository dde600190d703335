/- The iterator of package part over the sets of k of the numbers below n. -/
import Derived.Test.YtfipebkhomppmaaLwD
import Derived.Test.YtfipebkhomppmaaLinQ
import Derived.Test.YtfipebkhomppmaaRange
import Derived.Sort.QuietIn
import Derived.Sort.LoopGhostIn
import Derived.Sort.CutIn
namespace Go.Proofs.Ytfipebkhomppmaa
open Go.RowKit
set_option linter.unusedVariables false
attribute [local go_sem] Oper.semAt_some

theorem allI_upF (n : Nat) : allI n = upF 0 n := by
  have := upF_range n 0
  rw [show ((0 : Nat) : Int) = 0 from rfl] at this
  rw [this]
  unfold allI
  rw [List.range_eq_range']

set_option maxRecDepth 100000 in
set_option maxHeartbeats 4000000 in
theorem iter_sets (w0 : World) (n k kb nb : Nat) (hn : n ≤ 1000) (hk : k ≤ 1000) (hk1 : 1 ≤ k) (hkb : kb < w0.heap.size) (hnb : nb < w0.heap.size) (hf0 : w0.cell? ⟨kb, 0, none⟩ = some (.int .i64 k)) (hf1 : w0.cell? ⟨nb, 0, none⟩ = some (.int .i64 n)) :
    IterInts Try.prog 3 115 #[.pointer (some ⟨kb, 0, none⟩), .pointer (some ⟨nb, 0, none⟩)] (comb n k 0) (fun q => q = kb ∨ q = nb) w0 := by
  obtain ⟨xs, hxs⟩ : ∃ xs, xs = comb n k 0 := ⟨_, rfl⟩
  have hfacts : ∀ x ∈ xs, x.length = k ∧ x.Pairwise (· < ·) ∧ (∀ y ∈ x, y < (n : Int)) ∧ ∀ j : Nat, (0 : Int) ≤ x[j]?.getD 0 := fun x hx => by
    rw [hxs] at hx
    obtain ⟨h1, h2⟩ := comb_asc n k 0 x hx
    exact ⟨comb_len n k 0 x hx, h1, fun y hy => by have := (h2 y hy).2; omega, fun j => by
      rcases Nat.lt_or_ge j x.length with h | h
      · rw [List.getElem?_eq_getElem h]; have := (h2 _ (List.getElem_mem h)).1; simp; omega
      · rw [List.getElem?_eq_none h]; simp⟩
  have hchn : Chn n none xs := by rw [hxs]; have := comb_chn n k 0; rwa [Int.zero_add] at this
  have hhead : k ≤ n → xs[0]? = some (upF 0 k) := fun hkn => by
    rw [hxs]
    obtain ⟨t, ht⟩ := comb_head n k 0 hkn
    rw [ht]; rfl
  have hnil : ¬ k ≤ n → xs = [] := fun h => by rw [hxs]; exact comb_none n k 0 (by omega)
  rw [← hxs]
  have HF := hid hfacts
  have HC := hid hchn
  have HH := hid hhead
  have HNL := hid hnil
  clear hfacts hchn hhead hnil hxs
  intro l J Jx W hb hJ hY h0
  have hg0 : W.cell? ⟨kb, 0, none⟩ = some (.int .i64 k) := (hb.cell (p := ⟨kb, 0, none⟩) hkb).trans hf0
  have hg1 : W.cell? ⟨nb, 0, none⟩ = some (.int .i64 n) := (hb.cell (p := ⟨nb, 0, none⟩) hnb).trans hf1
  have hkW : kb < W.heap.size := Nat.lt_of_lt_of_le hkb hb.size
  have hnW : nb < W.heap.size := Nat.lt_of_lt_of_le hnb hb.size
  have HJ := hid hJ
  have HY := hid hY
  have H0 := hid h0
  have HALL := hid (all_c W k hk)
  clear hJ hY h0 hf0 hf1 hb
  refine callsIn_of_wp Try.func115 rfl trivial ?_ rfl
  simp only [Try.ntmps115, List.size_toArray, List.length_cons, List.length_nil, Nat.reduceAdd, Nat.reduceSub, Array.replicate_succ, Array.replicate_zero, List.push_toArray, List.append_toArray, List.nil_append, List.cons_append]
  gi_wp2_with (refine ⟨trivial, rfl, ?_⟩; gi_at_call 70; refine (callsIn_wide.2 HALL.out).mono ?_; rintro e w1 ⟨v, rfl, ho1, hb1⟩; refine Stop.of ?_)
  refine Stop.go ?_
  obtain ⟨it, cap, rfl, hit, hr1⟩ := spRow_own ho1 (allI_len k) hk1
  rw [allI_upF] at hr1
  have hJ1 : J it [] w1 := HJ.out it _ _ _ hit (H0.out it hit) (Keep.of_below hb1)
  have hkb1 := hb1.block kb hkW
  have hnb1 := hb1.block nb hnW
  have hs1 := hb1.size
  clear ho1 HALL
  by_cases hkn : k ≤ n
  · have hhead := HH.out hkn
    have hit1 := hr1.lt
    have HIT := hid hit
    clear hit
    gi_wp2
    gi_loopg [] xs.length (fun (g : Nat) wr => ∃ (i : Nat) (x : List Int), g = xs.length - i ∧ xs[i]? = some x ∧ J it (xs.take i) wr ∧ SpRow wr it x ∧ wr.heap[kb]? = W.heap[kb]? ∧ wr.heap[nb]? = W.heap[nb]? ∧ W.heap.size ≤ wr.heap.size)
    case atStart => exact ⟨0, upF 0 k, by omega, hhead, by rw [List.take_zero]; exact hJ1, hr1, hkb1, hnb1, hs1⟩
    case round =>
      obtain ⟨i, x, rfl, hx, hJk, hrk, hfk, hfn, hsz⟩ := hrel
      have hxm : x ∈ xs := List.mem_of_getElem? hx
      obtain ⟨hxl, hxp, hxb, hxn⟩ := HF.out x hxm
      have hil : i < xs.length := (List.getElem?_eq_some_iff.1 hx).1
      obtain ⟨sp, hrow⟩ := hrk
      have hyk := HY.out it (xs.take i) x cap sp wr (by rw [take_snoc_at hx]; exact List.take_prefix _ _) HIT.out (Array.getElem?_eq_some_iff.1 hrow).1 hJk hrow
      rw [hxl, take_snoc_at hx] at hyk
      have hw0 : wr.cell? ⟨kb, 0, none⟩ = some (.int .i64 k) := (World.cell?_of_block (a := ⟨kb, 0, none⟩) hfk).trans hg0
      have hw1 : wr.cell? ⟨nb, 0, none⟩ = some (.int .i64 n) := (World.cell?_of_block (a := ⟨nb, 0, none⟩) hfn).trans hg1
      have hkn' : (k : Int) ≤ (n : Int) := by omega
      have HRK := hid (show SpRow wr it x from ⟨sp, hrow⟩)
      have HFK := hid hfk
      have HFN := hid hfn
      have HX := hid hx
      have HXL := hid hxl
      have HXP := hid hxp
      have HXB := hid hxb
      have HXN := hid hxn
      clear hrow hJk hfk hfn hx hxm hxl hxp hxb hxn hhead hJ1 hr1 hkb1 hnb1
      obtain ⟨fn, tmps, assign, body, hy, hR⟩ := hyk
      gi_wp2
      refine ⟨rfl, hR.mono ?_⟩
      clear hR hy
      rintro e W3 (⟨rfl, hJ3, hs3, hk3⟩ | ⟨rfl, hJx⟩)
      · have hr3 : SpRow W3 it x := HRK.out.keep (hk3 it (Or.inr rfl))
        have hfk3 : W3.heap[kb]? = W.heap[kb]? := (hk3 kb (Or.inl (Or.inl rfl))).trans HFK.out
        have hfn3 : W3.heap[nb]? = W.heap[nb]? := (hk3 nb (Or.inl (Or.inr rfl))).trans HFN.out
        have hg30 : W3.cell? ⟨kb, 0, none⟩ = some (.int .i64 k) := (World.cell?_of_block (a := ⟨kb, 0, none⟩) hfk3).trans hg0
        have hg31 : W3.cell? ⟨nb, 0, none⟩ = some (.int .i64 n) := (World.cell?_of_block (a := ⟨nb, 0, none⟩) hfn3).trans hg1
        have HR3 := hid hr3
        have HK3 := hid hfk3
        have HN3 := hid hfn3
        have HJ3 := hid hJ3
        clear hr3 hfk3 hfn3 hJ3 hk3 hw0 hw1 HRK HFK HFN
        gi_wp2
        gi_loopw [5] (fun i5 wi => ∃ i0 : Int, i5 = .int .i64 i0 ∧ -1 ≤ i0 ∧ i0 < k ∧ TailAt n k x (i0 + 1).toNat ∧ Below W3.heap.size W3 wi) (fun i5 _ => (intOf i5 + 1).toNat)
        case atStart =>
          refine ⟨k - 1, by first | rfl | (congr 1), by omega, by omega, ?_, Below.refl _ _⟩
          intro j h1 h2
          omega
        case round =>
          obtain ⟨i0, rfl, hi1, hi2, hT, hbi⟩ := hrel
          have hgk : wr.cell? ⟨kb, 0, none⟩ = some (.int .i64 k) := (hbi.cell (p := ⟨kb, 0, none⟩) (by show kb < _; omega)).trans hg30
          have hgn : wr.cell? ⟨nb, 0, none⟩ = some (.int .i64 n) := (hbi.cell (p := ⟨nb, 0, none⟩) (by show nb < _; omega)).trans hg31
          have hri := HR3.out.keep (hbi.block it HR3.out.lt)
          have HBI := hid hbi
          clear hbi
          by_cases h0 : 0 ≤ i0
          · obtain ⟨m, rfl⟩ := Int.eq_ofNat_of_zero_le h0
            have e1 : ((m : Int) + 1).toNat = m + 1 := by omega
            rw [e1] at hT
            have hmk : m < k := by omega
            have hle := tail_le HXL.out HXP.out HXB.out hmk hT
            have hc : wr.cell? ⟨it, m, none⟩ = some (.int .i64 (x[m]?.getD 0)) := hri.cell (by rw [HXL.out]; exact hmk)
            have hw1 : wrap64 ((n : Int) - k) = (n : Int) - k := by unfold wrap64; omega
            have hw2 : wrap64 ((n : Int) - k + m) = (n : Int) - k + m := by unfold wrap64; omega
            have hz := hri.frozen m
            have hlt3 := hri.lt
            have HRI := hid hri
            clear hri
            have hm0 : (0 : Int) ≤ (m : Int) := by omega
            have hm1 : (m : Int) < (k : Int) := by omega
            have HT := hid hT
            by_cases he : x[m]?.getD 0 = (n : Int) - k + m
            · have hst := tail_step HXL.out hmk hT he
              have hbe : (x[m]?.getD 0 == (n : Int) - k + m) = true := by simpa using he
              have HST := hid hst
              clear he hst hT hle
              gi_wp2
              gi_quiet (fail)
              gi_wp2
              refine ⟨⟨(m : Int) - 1, rfl, by omega, by omega, ?_, below_drewN HBI.out nq⟩, ?_⟩
              · rw [show ((m : Int) - 1 + 1).toNat = m by omega]; exact HST.out
              · simp [intOf]
            · have hbe : (x[m]?.getD 0 == (n : Int) - k + m) = false := by simpa using he
              have hlt : x[m]?.getD 0 < (n : Int) - k + m := by omega
              have HLT := hid hlt
              clear he hT hle hlt
              gi_wp2
              gi_quiet (fail)
              have HRQ := hid (show SpRow (wr.drewN nq) it x from HRI.out)
              have HBQ := hid (below_drewN HBI.out nq)
              have hgk2 : (wr.drewN nq).cell? ⟨kb, 0, none⟩ = some (.int .i64 k) := hgk
              have hc2 : (wr.drewN nq).cell? ⟨it, m, none⟩ = some (.int .i64 (x[m]?.getD 0)) := hc
              have hz2 : (wr.drewN nq).frozen? ⟨it, m, none⟩ = false := hz
              have hlt2 : it < (wr.drewN nq).heap.size := hlt3
              clear HRI HBI hgk hgn hc hz hlt3
              generalize wr.drewN nq = w4 at HRQ HBQ hgk2 hc2 hz2 hlt2 ⊢
              have hv : wrap64 (x[m]?.getD 0 + 1) = x[m]?.getD 0 + 1 := by
                have h1 := HLT.out
                have h2 : (0 : Int) ≤ x[m]?.getD 0 := HXN.out m
                unfold wrap64; omega
              have HV := hid hv
              clear hv
              have HKS := hid (HRQ.out.set m (by rw [HXL.out]; exact hmk) (x[m]?.getD 0 + 1))
              rw [fillS_start (by rw [HXL.out]; exact hmk)] at HKS
              have HW9 := hid (show wrap64 ((m : Int) + 1) = ((m + 1 : Nat) : Int) by unfold wrap64; omega)
              gi_wp2
              gi_loopw [6] (fun v wj => ∃ j : Nat, m + 1 ≤ j ∧ j ≤ k ∧ v = .int .i64 j ∧ SpRow wj it (fillS x m j) ∧ Keep (fun q => q ≠ it) w4 wj) (fun v _ => k - (intOf v).toNat)
              case atStart => exact ⟨m + 1, Nat.le_refl _, by omega, by rw [show ((m : Int) + 1) = ((m + 1 : Nat) : Int) by omega], by have h := HKS.out; with_reducible (first | (rw [HV.out]; exact h) | exact h), Keep.set _ _ _ _⟩
              case round =>
                obtain ⟨j, hj1, hj2, rfl, hrj, hkj⟩ := hrel
                have hgj : wr.cell? ⟨kb, 0, none⟩ = some (.int .i64 k) := hkj.cell hgk2 (by have := HIT.out; omega)
                by_cases hjk : j < k
                · have hlen := fillS_len (m := m) (j := j) (x := x) (by omega) (show j ≤ x.length by rw [HXL.out]; omega)
                  have hget := fillS_get (x := x) (show m < j by omega) (by rw [HXL.out]; omega)
                  have hset := fillS_set (x := x) (show m ≤ j by omega) (by rw [HXL.out]; omega)
                  have hcj := hrj.cell (j := j - 1) (by rw [hlen, HXL.out]; omega)
                  rw [hget] at hcj
                  have hzj := hrj.frozen j
                  have hcj2 := hrj.cell (j := j) (by rw [hlen, HXL.out]; exact hjk)
                  obtain ⟨u, hu⟩ : ∃ u, u = (fillS x m j)[j]?.getD 0 := ⟨_, rfl⟩
                  rw [← hu] at hcj2
                  have hltj := hrj.lt
                  have hwj : wrap64 ((j : Int) - 1) = ((j - 1 : Nat) : Int) := by unfold wrap64; omega
                  have hwv : wrap64 (x[m]?.getD 0 + ((j - m : Nat) : Int) + 1) = x[m]?.getD 0 + ((j + 1 - m : Nat) : Int) := by
                    have h1 := HLT.out
                    have h2 : (0 : Int) ≤ x[m]?.getD 0 := HXN.out m
                    unfold wrap64; omega
                  have HSJ := hid (hrj.set j (by rw [hlen, HXL.out]; exact hjk) (x[m]?.getD 0 + ((j + 1 - m : Nat) : Int)))
                  rw [hset] at HSJ
                  have i1 : (0 : Int) ≤ ((j - 1 : Nat) : Int) := by omega
                  have i2 : ((j - 1 : Nat) : Int) < (k : Int) := by omega
                  have i3 : (0 : Int) ≤ (j : Int) := by omega
                  have i4 : (j : Int) < (k : Int) := by omega
                  have HKJ := hid hkj
                  obtain ⟨y, hy⟩ : ∃ y, y = x[m]?.getD 0 + ((j - m : Nat) : Int) := ⟨_, rfl⟩
                  obtain ⟨z, hz⟩ : ∃ z, z = x[m]?.getD 0 + ((j + 1 - m : Nat) : Int) := ⟨_, rfl⟩
                  rw [← hy, ← hz] at hwv
                  rw [← hy] at hcj
                  rw [← hz] at HSJ
                  obtain ⟨p, hp⟩ : ∃ p, p = j - 1 := ⟨_, rfl⟩
                  rw [← hp] at hcj hwj i1 i2
                  have hjp : (j : Int) - 1 = (p : Int) := by omega
                  clear hrj hkj hlen hget hset hy hz hp hu
                  gi_wp2
                  refine ⟨⟨j + 1, by omega, by omega, ?_, HSJ.out, HKJ.out.trans (Keep.set _ _ _ _)⟩, by simp [intOf]; omega⟩
                  rw [show ((j : Int) + 1) = ((j + 1 : Nat) : Int) by omega]
                · obtain rfl : j = k := by omega
                  have hnx := HC.out.at HX.out
                  rw [fillS_done HXL.out hkn hmk HT.out HLT.out] at hnx
                  have hi1 : i + 1 < xs.length := (List.getElem?_eq_some_iff.1 hnx).1
                  have HNX := hid hnx
                  have HKJ := hid hkj
                  have HRJ := hid hrj
                  clear hnx hkj hrj
                  gi_wp2
                  gi_roundg (xs.length - (i + 1))
                  case measure => omega
                  case rel =>
                    refine ⟨i + 1, fillS x m j, rfl, HNX.out, ?_, HRJ.out, ?_, ?_, ?_⟩
                    · exact HJ.out it _ W3 _ HIT.out HJ3.out ((Keep.of_below HBQ.out).trans HKJ.out)
                    · exact (HKJ.out.block kb (by have := HBQ.out.size; omega) (by have := HIT.out; omega)).trans ((HBQ.out.block kb (by omega)).trans HK3.out)
                    · exact (HKJ.out.block nb (by have := HBQ.out.size; omega) (by have := HIT.out; omega)).trans ((HBQ.out.block nb (by omega)).trans HN3.out)
                    · have := HKJ.out.size; have := HBQ.out.size; omega
          · obtain rfl : i0 = -1 := by omega
            have hn0 : decide ((0 : Int) ≤ -1) = false := by decide
            have HT := hid hT
            clear hT
            gi_wp2
            gi_quiet (fail)
            gi_wp2
            refine bodyPost_ret (results_none rfl _ _ _) rfl ?_
            refine ⟨⟨_, rfl⟩, .inl ⟨it, HIT.out, ?_⟩⟩
            have hnx := HC.out.at HX.out
            rw [next_none HXL.out hkn (by simpa using HT.out)] at hnx
            rw [← take_all_at HX.out hnx]
            exact HJ.out it _ W3 _ HIT.out HJ3.out (Keep.of_below (below_drewN HBI.out _))
      · gi_wp2
        refine bodyPost_ret (results_none rfl _ _ _) rfl ?_
        exact ⟨⟨_, rfl⟩, .inr ⟨_, List.take_prefix _ _, hJx⟩⟩
  · have HNIL := hid (HNL.out hkn)
    have hkb' : w1.cell? ⟨kb, 0, none⟩ = some (.int .i64 k) := (World.cell?_of_block (a := ⟨kb, 0, none⟩) hkb1).trans hg0
    have hnb' : w1.cell? ⟨nb, 0, none⟩ = some (.int .i64 n) := (World.cell?_of_block (a := ⟨nb, 0, none⟩) hnb1).trans hg1
    have hd : decide ((k : Int) ≤ (n : Int)) = false := by simp; omega
    have HJ1 := hid hJ1
    have HIT := hid hit
    clear hJ1 hit hr1
    gi_wp2
    gi_loopw [] (fun wr => ∃ q, wr = w1.drewN q) (fun _ => 0)
    case atStart => exact ⟨0, rfl⟩
    case round =>
      obtain ⟨q, rfl⟩ := hrel
      have hkb2 : (w1.drewN q).cell? ⟨kb, 0, none⟩ = some (.int .i64 k) := hkb'
      have hnb2 : (w1.drewN q).cell? ⟨nb, 0, none⟩ = some (.int .i64 n) := hnb'
      gi_wp2
      go_end0
      refine ⟨⟨_, rfl⟩, .inl ⟨it, HIT.out, ?_⟩⟩
      rw [HNIL.out]
      exact HJ.out it _ _ _ HIT.out HJ1.out ((Keep.refl _ _).drewN q)
end Go.Proofs.Ytfipebkhomppmaa

/- Walks and plain laws for LinPermutedRow, part 5. -/
import Derived.Sort.QuietIn
import Derived.Sort.LoopGhostIn
import Derived.Sort.CutIn
import Derived.Deep.CutRange
import Derived.Test.YtfipebkhomppmaaPkLinPermutedRow4
namespace Go.Proofs.Ytfipebkhomppmaa
open Go.RowKit
set_option linter.unusedVariables false
attribute [local go_sem] Oper.semAt_some

theorem allI_upF (n : Nat) : allI n = upF 0 n := by
  have := upF_range n 0
  rw [show ((0 : Nat) : Int) = 0 from rfl] at this
  rw [this]
  unfold allI
  rw [List.range_eq_range']

set_option maxRecDepth 100000 in
set_option maxHeartbeats 4000000 in
theorem iter_sets (w0 : World) (n k kb nb : Nat) (hn : n ≤ 1000) (hk : k ≤ 1000) (hk1 : 1 ≤ k) (hkb : kb < w0.heap.size) (hnb : nb < w0.heap.size) (hf0 : w0.cell? ⟨kb, 0, none⟩ = some (.int .i64 k)) (hf1 : w0.cell? ⟨nb, 0, none⟩ = some (.int .i64 n)) :
    IterInts Try.prog 3 115 #[.pointer (some ⟨kb, 0, none⟩), .pointer (some ⟨nb, 0, none⟩)] (comb n k 0) (fun q => q = kb ∨ q = nb) w0 := by
  obtain ⟨xs, hxs⟩ : ∃ xs, xs = comb n k 0 := ⟨_, rfl⟩
  have hfacts : ∀ x ∈ xs, x.length = k ∧ x.Pairwise (· < ·) ∧ (∀ y ∈ x, y < (n : Int)) ∧ ∀ j : Nat, (0 : Int) ≤ x[j]?.getD 0 := fun x hx => by
    rw [hxs] at hx
    obtain ⟨h1, h2⟩ := comb_asc n k 0 x hx
    exact ⟨comb_len n k 0 x hx, h1, fun y hy => by have := (h2 y hy).2; omega, fun j => by
      rcases Nat.lt_or_ge j x.length with h | h
      · rw [List.getElem?_eq_getElem h]; have := (h2 _ (List.getElem_mem h)).1; simp; omega
      · rw [List.getElem?_eq_none h]; simp⟩
  have hchn : Chn n none xs := by rw [hxs]; have := comb_chn n k 0; rwa [Int.zero_add] at this
  have hhead : k ≤ n → xs[0]? = some (upF 0 k) := fun hkn => by
    rw [hxs]
    obtain ⟨t, ht⟩ := comb_head n k 0 hkn
    rw [ht]; rfl
  have hnil : ¬ k ≤ n → xs = [] := fun h => by rw [hxs]; exact comb_none n k 0 (by omega)
  rw [← hxs]
  have HF := hid hfacts
  have HC := hid hchn
  have HH := hid hhead
  have HNL := hid hnil
  clear hfacts hchn hhead hnil hxs
  intro l J Jx W hb hJ hY h0
  have hg0 : W.cell? ⟨kb, 0, none⟩ = some (.int .i64 k) := (hb.cell (p := ⟨kb, 0, none⟩) hkb).trans hf0
  have hg1 : W.cell? ⟨nb, 0, none⟩ = some (.int .i64 n) := (hb.cell (p := ⟨nb, 0, none⟩) hnb).trans hf1
  have hkW : kb < W.heap.size := Nat.lt_of_lt_of_le hkb hb.size
  have hnW : nb < W.heap.size := Nat.lt_of_lt_of_le hnb hb.size
  have HJ := hid hJ
  have HY := hid hY
  have H0 := hid h0
  have HALL := hid (all_c W k hk)
  clear hJ hY h0 hf0 hf1 hb
  refine callsIn_of_wp Try.func115 rfl trivial ?_ rfl
  simp only [Try.ntmps115, List.size_toArray, List.length_cons, List.length_nil, Nat.reduceAdd, Nat.reduceSub, Array.replicate_succ, Array.replicate_zero, List.push_toArray, List.append_toArray, List.nil_append, List.cons_append]
  gi_wp2_with (refine ⟨trivial, rfl, ?_⟩; gi_at_call 70; refine (callsIn_wide.2 HALL.out).mono ?_; rintro e w1 ⟨v, rfl, ho1, hb1⟩; refine Stop.of ?_)
  refine Stop.go ?_
  obtain ⟨it, cap, rfl, hit, hr1⟩ := spRow_own ho1 (allI_len k) hk1
  rw [allI_upF] at hr1
  have hJ1 : J it [] w1 := HJ.out it _ _ _ hit (H0.out it hit) (Keep.of_below hb1)
  have hkb1 := hb1.block kb hkW
  have hnb1 := hb1.block nb hnW
  have hs1 := hb1.size
  clear ho1 HALL
  by_cases hkn : k ≤ n
  · have hhead := HH.out hkn
    have hit1 := hr1.lt
    have HIT := hid hit
    clear hit
    gi_wp2
    gi_loopg [] xs.length (fun (g : Nat) wr => ∃ (i : Nat) (x : List Int), g = xs.length - i ∧ xs[i]? = some x ∧ J it (xs.take i) wr ∧ SpRow wr it x ∧ wr.heap[kb]? = W.heap[kb]? ∧ wr.heap[nb]? = W.heap[nb]? ∧ W.heap.size ≤ wr.heap.size)
    case atStart => exact ⟨0, upF 0 k, by omega, hhead, by rw [List.take_zero]; exact hJ1, hr1, hkb1, hnb1, hs1⟩
    case round =>
      obtain ⟨i, x, rfl, hx, hJk, hrk, hfk, hfn, hsz⟩ := hrel
      have hxm : x ∈ xs := List.mem_of_getElem? hx
      obtain ⟨hxl, hxp, hxb, hxn⟩ := HF.out x hxm
      have hil : i < xs.length := (List.getElem?_eq_some_iff.1 hx).1
      obtain ⟨sp, hrow⟩ := hrk
      have hyk := HY.out it (xs.take i) x cap sp wr (by rw [take_snoc_at hx]; exact List.take_prefix _ _) HIT.out (Array.getElem?_eq_some_iff.1 hrow).1 hJk hrow
      rw [hxl, take_snoc_at hx] at hyk
      have hw0 : wr.cell? ⟨kb, 0, none⟩ = some (.int .i64 k) := (World.cell?_of_block (a := ⟨kb, 0, none⟩) hfk).trans hg0
      have hw1 : wr.cell? ⟨nb, 0, none⟩ = some (.int .i64 n) := (World.cell?_of_block (a := ⟨nb, 0, none⟩) hfn).trans hg1
      have hkn' : (k : Int) ≤ (n : Int) := by omega
      have HRK := hid (show SpRow wr it x from ⟨sp, hrow⟩)
      have HFK := hid hfk
      have HFN := hid hfn
      have HX := hid hx
      have HXL := hid hxl
      have HXP := hid hxp
      have HXB := hid hxb
      have HXN := hid hxn
      clear hrow hJk hfk hfn hx hxm hxl hxp hxb hxn hhead hJ1 hr1 hkb1 hnb1
      obtain ⟨fn, tmps, assign, body, hy, hR⟩ := hyk
      gi_wp2
      refine ⟨rfl, hR.mono ?_⟩
      clear hR hy
      rintro e W3 (⟨rfl, hJ3, hs3, hk3⟩ | ⟨rfl, hJx⟩)
      · have hr3 : SpRow W3 it x := HRK.out.keep (hk3 it (Or.inr rfl))
        have hfk3 : W3.heap[kb]? = W.heap[kb]? := (hk3 kb (Or.inl (Or.inl rfl))).trans HFK.out
        have hfn3 : W3.heap[nb]? = W.heap[nb]? := (hk3 nb (Or.inl (Or.inr rfl))).trans HFN.out
        have hg30 : W3.cell? ⟨kb, 0, none⟩ = some (.int .i64 k) := (World.cell?_of_block (a := ⟨kb, 0, none⟩) hfk3).trans hg0
        have hg31 : W3.cell? ⟨nb, 0, none⟩ = some (.int .i64 n) := (World.cell?_of_block (a := ⟨nb, 0, none⟩) hfn3).trans hg1
        have HR3 := hid hr3
        have HK3 := hid hfk3
        have HN3 := hid hfn3
        have HJ3 := hid hJ3
        clear hr3 hfk3 hfn3 hJ3 hk3 hw0 hw1 HRK HFK HFN
        gi_wp2
        gi_loopw [5] (fun i5 wi => ∃ i0 : Int, i5 = .int .i64 i0 ∧ -1 ≤ i0 ∧ i0 < k ∧ TailAt n k x (i0 + 1).toNat ∧ Below W3.heap.size W3 wi) (fun i5 _ => (intOf i5 + 1).toNat)
        case atStart =>
          refine ⟨k - 1, by first | rfl | (congr 1), by omega, by omega, ?_, Below.refl _ _⟩
          intro j h1 h2
          omega
        case round =>
          obtain ⟨i0, rfl, hi1, hi2, hT, hbi⟩ := hrel
          have hgk : wr.cell? ⟨kb, 0, none⟩ = some (.int .i64 k) := (hbi.cell (p := ⟨kb, 0, none⟩) (by show kb < _; omega)).trans hg30
          have hgn : wr.cell? ⟨nb, 0, none⟩ = some (.int .i64 n) := (hbi.cell (p := ⟨nb, 0, none⟩) (by show nb < _; omega)).trans hg31
          have hri := HR3.out.keep (hbi.block it HR3.out.lt)
          have HBI := hid hbi
          clear hbi
          by_cases h0 : 0 ≤ i0
          · obtain ⟨m, rfl⟩ := Int.eq_ofNat_of_zero_le h0
            have e1 : ((m : Int) + 1).toNat = m + 1 := by omega
            rw [e1] at hT
            have hmk : m < k := by omega
            have hle := tail_le HXL.out HXP.out HXB.out hmk hT
            have hc : wr.cell? ⟨it, m, none⟩ = some (.int .i64 (x[m]?.getD 0)) := hri.cell (by rw [HXL.out]; exact hmk)
            have hw1 : wrap64 ((n : Int) - k) = (n : Int) - k := by unfold wrap64; omega
            have hw2 : wrap64 ((n : Int) - k + m) = (n : Int) - k + m := by unfold wrap64; omega
            have hz := hri.frozen m
            have hlt3 := hri.lt
            have HRI := hid hri
            clear hri
            have hm0 : (0 : Int) ≤ (m : Int) := by omega
            have hm1 : (m : Int) < (k : Int) := by omega
            have HT := hid hT
            by_cases he : x[m]?.getD 0 = (n : Int) - k + m
            · have hst := tail_step HXL.out hmk hT he
              have hbe : (x[m]?.getD 0 == (n : Int) - k + m) = true := by simpa using he
              have HST := hid hst
              clear he hst hT hle
              gi_wp2
              gi_quiet (fail)
              gi_wp2
              refine ⟨⟨(m : Int) - 1, rfl, by omega, by omega, ?_, below_drewN HBI.out nq⟩, ?_⟩
              · rw [show ((m : Int) - 1 + 1).toNat = m by omega]; exact HST.out
              · simp [intOf]
            · have hbe : (x[m]?.getD 0 == (n : Int) - k + m) = false := by simpa using he
              have hlt : x[m]?.getD 0 < (n : Int) - k + m := by omega
              have HLT := hid hlt
              clear he hT hle hlt
              gi_wp2
              gi_quiet (fail)
              have HRQ := hid (show SpRow (wr.drewN nq) it x from HRI.out)
              have HBQ := hid (below_drewN HBI.out nq)
              have hgk2 : (wr.drewN nq).cell? ⟨kb, 0, none⟩ = some (.int .i64 k) := hgk
              have hc2 : (wr.drewN nq).cell? ⟨it, m, none⟩ = some (.int .i64 (x[m]?.getD 0)) := hc
              have hz2 : (wr.drewN nq).frozen? ⟨it, m, none⟩ = false := hz
              have hlt2 : it < (wr.drewN nq).heap.size := hlt3
              clear HRI HBI hgk hgn hc hz hlt3
              generalize wr.drewN nq = w4 at HRQ HBQ hgk2 hc2 hz2 hlt2 ⊢
              have hv : wrap64 (x[m]?.getD 0 + 1) = x[m]?.getD 0 + 1 := by
                have h1 := HLT.out
                have h2 : (0 : Int) ≤ x[m]?.getD 0 := HXN.out m
                unfold wrap64; omega
              have HV := hid hv
              clear hv
              have HKS := hid (HRQ.out.set m (by rw [HXL.out]; exact hmk) (x[m]?.getD 0 + 1))
              rw [fillS_start (by rw [HXL.out]; exact hmk)] at HKS
              have HW9 := hid (show wrap64 ((m : Int) + 1) = ((m + 1 : Nat) : Int) by unfold wrap64; omega)
              gi_wp2
              gi_loopw [6] (fun v wj => ∃ j : Nat, m + 1 ≤ j ∧ j ≤ k ∧ v = .int .i64 j ∧ SpRow wj it (fillS x m j) ∧ Keep (fun q => q ≠ it) w4 wj) (fun v _ => k - (intOf v).toNat)
              case atStart => exact ⟨m + 1, Nat.le_refl _, by omega, by rw [show ((m : Int) + 1) = ((m + 1 : Nat) : Int) by omega], by have h := HKS.out; with_reducible (first | (rw [HV.out]; exact h) | exact h), Keep.set _ _ _ _⟩
              case round =>
                obtain ⟨j, hj1, hj2, rfl, hrj, hkj⟩ := hrel
                have hgj : wr.cell? ⟨kb, 0, none⟩ = some (.int .i64 k) := hkj.cell hgk2 (by have := HIT.out; omega)
                by_cases hjk : j < k
                · have hlen := fillS_len (m := m) (j := j) (x := x) (by omega) (show j ≤ x.length by rw [HXL.out]; omega)
                  have hget := fillS_get (x := x) (show m < j by omega) (by rw [HXL.out]; omega)
                  have hset := fillS_set (x := x) (show m ≤ j by omega) (by rw [HXL.out]; omega)
                  have hcj := hrj.cell (j := j - 1) (by rw [hlen, HXL.out]; omega)
                  rw [hget] at hcj
                  have hzj := hrj.frozen j
                  have hcj2 := hrj.cell (j := j) (by rw [hlen, HXL.out]; exact hjk)
                  obtain ⟨u, hu⟩ : ∃ u, u = (fillS x m j)[j]?.getD 0 := ⟨_, rfl⟩
                  rw [← hu] at hcj2
                  have hltj := hrj.lt
                  have hwj : wrap64 ((j : Int) - 1) = ((j - 1 : Nat) : Int) := by unfold wrap64; omega
                  have hwv : wrap64 (x[m]?.getD 0 + ((j - m : Nat) : Int) + 1) = x[m]?.getD 0 + ((j + 1 - m : Nat) : Int) := by
                    have h1 := HLT.out
                    have h2 : (0 : Int) ≤ x[m]?.getD 0 := HXN.out m
                    unfold wrap64; omega
                  have HSJ := hid (hrj.set j (by rw [hlen, HXL.out]; exact hjk) (x[m]?.getD 0 + ((j + 1 - m : Nat) : Int)))
                  rw [hset] at HSJ
                  have i1 : (0 : Int) ≤ ((j - 1 : Nat) : Int) := by omega
                  have i2 : ((j - 1 : Nat) : Int) < (k : Int) := by omega
                  have i3 : (0 : Int) ≤ (j : Int) := by omega
                  have i4 : (j : Int) < (k : Int) := by omega
                  have HKJ := hid hkj
                  obtain ⟨y, hy⟩ : ∃ y, y = x[m]?.getD 0 + ((j - m : Nat) : Int) := ⟨_, rfl⟩
                  obtain ⟨z, hz⟩ : ∃ z, z = x[m]?.getD 0 + ((j + 1 - m : Nat) : Int) := ⟨_, rfl⟩
                  rw [← hy, ← hz] at hwv
                  rw [← hy] at hcj
                  rw [← hz] at HSJ
                  obtain ⟨p, hp⟩ : ∃ p, p = j - 1 := ⟨_, rfl⟩
                  rw [← hp] at hcj hwj i1 i2
                  have hjp : (j : Int) - 1 = (p : Int) := by omega
                  clear hrj hkj hlen hget hset hy hz hp hu
                  gi_wp2
                  refine ⟨⟨j + 1, by omega, by omega, ?_, HSJ.out, HKJ.out.trans (Keep.set _ _ _ _)⟩, by simp [intOf]; omega⟩
                  rw [show ((j : Int) + 1) = ((j + 1 : Nat) : Int) by omega]
                · obtain rfl : j = k := by omega
                  have hnx := HC.out.at HX.out
                  rw [fillS_done HXL.out hkn hmk HT.out HLT.out] at hnx
                  have hi1 : i + 1 < xs.length := (List.getElem?_eq_some_iff.1 hnx).1
                  have HNX := hid hnx
                  have HKJ := hid hkj
                  have HRJ := hid hrj
                  clear hnx hkj hrj
                  gi_wp2
                  gi_roundg (xs.length - (i + 1))
                  case measure => omega
                  case rel =>
                    refine ⟨i + 1, fillS x m j, rfl, HNX.out, ?_, HRJ.out, ?_, ?_, ?_⟩
                    · exact HJ.out it _ W3 _ HIT.out HJ3.out ((Keep.of_below HBQ.out).trans HKJ.out)
                    · exact (HKJ.out.block kb (by have := HBQ.out.size; omega) (by have := HIT.out; omega)).trans ((HBQ.out.block kb (by omega)).trans HK3.out)
                    · exact (HKJ.out.block nb (by have := HBQ.out.size; omega) (by have := HIT.out; omega)).trans ((HBQ.out.block nb (by omega)).trans HN3.out)
                    · have := HKJ.out.size; have := HBQ.out.size; omega
          · obtain rfl : i0 = -1 := by omega
            have hn0 : decide ((0 : Int) ≤ -1) = false := by decide
            have HT := hid hT
            clear hT
            gi_wp2
            gi_quiet (fail)
            gi_wp2
            refine bodyPost_ret (results_none rfl _ _ _) rfl ?_
            refine ⟨⟨_, rfl⟩, .inl ⟨it, HIT.out, ?_⟩⟩
            have hnx := HC.out.at HX.out
            rw [next_none HXL.out hkn (by simpa using HT.out)] at hnx
            rw [← take_all_at HX.out hnx]
            exact HJ.out it _ W3 _ HIT.out HJ3.out (Keep.of_below (below_drewN HBI.out _))
      · gi_wp2
        refine bodyPost_ret (results_none rfl _ _ _) rfl ?_
        exact ⟨⟨_, rfl⟩, .inr ⟨_, List.take_prefix _ _, hJx⟩⟩
  · have HNIL := hid (HNL.out hkn)
    have hkb' : w1.cell? ⟨kb, 0, none⟩ = some (.int .i64 k) := (World.cell?_of_block (a := ⟨kb, 0, none⟩) hkb1).trans hg0
    have hnb' : w1.cell? ⟨nb, 0, none⟩ = some (.int .i64 n) := (World.cell?_of_block (a := ⟨nb, 0, none⟩) hnb1).trans hg1
    have hd : decide ((k : Int) ≤ (n : Int)) = false := by simp; omega
    have HJ1 := hid hJ1
    have HIT := hid hit
    clear hJ1 hit hr1
    gi_wp2
    gi_loopw [] (fun wr => ∃ q, wr = w1.drewN q) (fun _ => 0)
    case atStart => exact ⟨0, rfl⟩
    case round =>
      obtain ⟨q, rfl⟩ := hrel
      have hkb2 : (w1.drewN q).cell? ⟨kb, 0, none⟩ = some (.int .i64 k) := hkb'
      have hnb2 : (w1.drewN q).cell? ⟨nb, 0, none⟩ = some (.int .i64 n) := hnb'
      gi_wp2
      go_end0
      refine ⟨⟨_, rfl⟩, .inl ⟨it, HIT.out, ?_⟩⟩
      rw [HNIL.out]
      exact HJ.out it _ _ _ HIT.out HJ1.out ((Keep.refl _ _).drewN q)
end Go.Proofs.Ytfipebkhomppmaa

namespace Go.Proofs.Ytfipebkhomppmaa
open Go.RowKit
set_option linter.unusedVariables false

theorem sets_c (w : World) (n k : Int) :
    Calls Try.prog 60 #[.int .i64 n, .int .i64 k] w fun e w' => e = .returned (.func (.func 115) #[] #[.pointer (some ⟨w.heap.size + 1, 0, none⟩), .pointer (some ⟨w.heap.size, 0, none⟩)]) ∧
      w' = (w.alloc (.cells #[.int .i64 n] 3)).alloc (.cells #[.int .i64 k] 3) := by
  have hmf : ∀ (fn : Fn) (first cap : Array Value) (w : World), (Instr.makeFunc fn first cap).run Try.prog w = .ok (.func fn first cap) w := fun _ _ _ _ => rfl
  go_enter Try.func60, Try.ntmps60
  go_wp2
  go_ret
  exact ⟨by simp, rfl⟩
end Go.Proofs.Ytfipebkhomppmaa

namespace Go.Proofs.Ytfipebkhomppmaa
open Go.RowKit
set_option linter.unusedVariables false

def Marks (b : Nat) : Nat → List Deferred → World → Prop
  | _, [], _ => True
  | top, d :: ds, w => ∃ h, b ≤ h ∧ h < top ∧ d = { target := .collected h, args := #[] } ∧ w.heap[h]? = some (.deferred (some [])) ∧ Marks b h ds w

theorem Marks.keep {b : Nat} {S : Nat → Prop} {A B : World} (hk : Keep S A B) : ∀ {top : Nat} {D : List Deferred}, (∀ k, k < A.heap.size → b ≤ k → k < top → A.heap[k]? = some (.deferred (some [])) → S k) → Marks b top D A → Marks b top D B
  | _, [], _, _ => trivial
  | top, d :: ds, hS, h => by
    obtain ⟨k, h1, h2, h3, h4, h5⟩ := h
    have hlt := (Array.getElem?_eq_some_iff.1 h4).1
    exact ⟨k, h1, h2, h3, (hk.block k hlt (hS k hlt h1 h2 h4)).trans h4, Marks.keep hk (fun q hq hb hqk => hS q hq hb (by omega)) h5⟩
theorem Marks.lt {b : Nat} {A : World} : ∀ {top : Nat} {D : List Deferred}, Marks b top D A → Marks b A.heap.size D A
  | _, [], _ => trivial
  | top, d :: ds, ⟨k, h1, h2, h3, h4, h5⟩ => ⟨k, h1, (Array.getElem?_eq_some_iff.1 h4).1, h3, h4, h5⟩
theorem Marks.up {b top t2 : Nat} {D : List Deferred} {A : World} (h : Marks b top D A) (ht : top ≤ t2) : Marks b t2 D A := by
  cases D with
  | nil => trivial
  | cons d ds =>
    obtain ⟨k, h1, h2, h3⟩ := h
    exact ⟨k, h1, by omega, h3⟩
theorem Marks.below {b k top : Nat} {D : List Deferred} {A : World} (hk : top ≤ k) : ∀ (o : Obj), Marks b top D A → Marks b top D (A.putObj k o) := fun o h => by
  induction D generalizing top with
  | nil => trivial
  | cons d ds ih =>
    obtain ⟨q, h1, h2, h3, h4, h5⟩ := h
    exact ⟨q, h1, h2, h3, (World.putObj_heap_other (by omega)).trans h4, ih (by omega) h5⟩

theorem Marks.leave {F : Fence} {n : Nat} {P : Program} {fn : Func} {tmps : Array Value} {R : Ending → World → Prop} {b : Nat} : ∀ (D : List Deferred) (top : Nat) (w : World), Marks b top D w →
    (∀ w', Keep (fun k => k < b ∨ w.heap[k]? ≠ some (.deferred (some []))) w w' → LeavesIn F n P fn tmps R [] .returning w') → LeavesInM F n P fn tmps R D .returning w
  | [], _, w, _, h => h w (Keep.refl _ _)
  | d :: ds, top, w, ⟨k, h1, h2, h3, h4, h5⟩, h => by
    refine ⟨by simp, .inl ⟨k, _, by rw [h3], run_takeDeferred h4, ?_⟩⟩
    refine Marks.leave ds k _ (Marks.below (Nat.le_refl _) _ h5) fun w' hk => h w' ?_
    have hp := Keep.put w k (.deferred none)
    refine ⟨hk.os.trans hp.os, hk.tape.trans hp.tape, hk.output.trans hp.output, Nat.le_trans hp.size hk.size, fun i hi hs => ?_⟩
    have hne : i ≠ k := by
      rintro rfl
      rcases hs with hs | hs
      · omega
      · exact hs h4
    have e1 : (w.putObj k (.deferred none)).heap[i]? = w.heap[i]? := World.putObj_heap_other hne
    refine (hk.block i (Nat.lt_of_lt_of_le hi hp.size) ?_).trans e1
    rcases hs with hs | hs
    · exact .inl hs
    · exact .inr (by rw [e1]; exact hs)
end Go.Proofs.Ytfipebkhomppmaa

namespace Go.Proofs.Ytfipebkhomppmaa
open Go.RowKit
set_option linter.unusedVariables false
attribute [local go_sem] Oper.semAt_some

theorem RowsO.lt {E T : TypeId} {W : World} {base : Nat} {S : Nat → Prop} {v : Value} {ls : List (List Int)} (h : RowsO E T W base S v ls) : RowsO E T W base (fun b => S b ∧ b < W.heap.size) v ls := by
  obtain ⟨vs, ho, hg, he⟩ := h
  refine ⟨vs, ho, fun k hk => ⟨hg k hk, (ho.lt k hk).2⟩, fun j hj => ?_⟩
  obtain ⟨u, hu, a, n, cap, e, hn, hm, hel⟩ := he j hj
  refine ⟨u, hu, a, n, cap, e, hn, hm, fun i hi => ?_⟩
  obtain ⟨b, off, e, hS, hlt, rest⟩ := hel i hi
  exact ⟨b, off, e, ⟨hS, hlt⟩, hlt, rest⟩
theorem RowsO.mono {E T : TypeId} {W : World} {base : Nat} {S S' : Nat → Prop} {v : Value} {ls : List (List Int)} (h : RowsO E T W base S v ls) (hs : ∀ b, S b → S' b) : RowsO E T W base S' v ls := by
  obtain ⟨vs, ho, hg, he⟩ := h
  refine ⟨vs, ho, fun k hk => hs _ (hg k hk), fun j hj => ?_⟩
  obtain ⟨u, hu, a, n, cap, e, hn, hm, hel⟩ := he j hj
  refine ⟨u, hu, a, n, cap, e, hn, hm, fun i hi => ?_⟩
  obtain ⟨b, off, e, hS, hlt, rest⟩ := hel i hi
  exact ⟨b, off, e, hs _ hS, hlt, rest⟩
theorem RowsO.keepT {E T : TypeId} {W W' : World} {base : Nat} {S : Nat → Prop} {v : Value} {ls : List (List Int)} (h : RowsO E T W base S v ls) (hk : Keep (fun k => k < base ∨ W.heap[k]? ≠ some (.deferred (some []))) W W') : RowsO E T W' base (fun _ => True) v ls := by
  obtain ⟨vs, ho, hg, he⟩ := h
  refine ⟨vs, ⟨ho.1, ?_⟩, fun _ _ => trivial, fun j hj => ?_⟩
  · rcases ho.2 with hn | ⟨g, cap, cur, rfl, hb, hgg, rest⟩
    · exact .inl hn
    · exact .inr ⟨g, cap, cur, rfl, hb, (hk.block g (Array.getElem?_eq_some_iff.1 hgg).1 (.inr (by rw [hgg]; simp))).trans hgg, rest⟩
  · obtain ⟨u, hu, hel⟩ := he j hj
    obtain ⟨a, n, cap, e, hn, hm, hj⟩ := hel
    refine ⟨u, hu, a, n, cap, e, hn, hm, fun i hi => ?_⟩
    obtain ⟨b, off, e, _, hb, hty, hc⟩ := hj i hi
    have ht : b < base ∨ W.heap[b]? ≠ some (.deferred (some [])) := by
      rcases hty with h | ⟨c, f, h⟩
      · exact .inl h
      · exact .inr (by rw [h]; simp)
    refine ⟨b, off, e, trivial, Nat.lt_of_lt_of_le hb hk.size, ?_, hk.cell hc ht⟩
    rcases hty with h | ⟨c, f, h⟩
    · exact .inl h
    · exact .inr ⟨c, f, (hk.block b hb ht).trans h⟩
theorem comb_count : ∀ (m k : Nat) (a : Int), (comb m k a).length ≤ 2 ^ m
  | 0, 0, a => Nat.le_refl _
  | m + 1, 0, a => Nat.one_le_two_pow
  | 0, k + 1, a => by simp [comb]
  | m + 1, k + 1, a => by
    simp only [comb, List.length_append, List.length_map]
    have h1 := comb_count m k (a + 1)
    have h2 := comb_count m (k + 1) (a + 1)
    rw [Nat.pow_succ]; omega
def circTo (M : List (List Int)) (n t : Nat) : List (List Int) := (List.range t).flatMap fun k => (comb n (k + 1) 0).filterMap (circ1P M n)
theorem circTo_succ (M : List (List Int)) (n t : Nat) : circTo M n (t + 1) = circTo M n t ++ (comb n (t + 1) 0).filterMap (circ1P M n) := by
  unfold circTo; rw [List.range_succ, List.flatMap_append]; simp
theorem circTo_count (M : List (List Int)) (n : Nat) : ∀ t, (circTo M n t).length ≤ t * 2 ^ n
  | 0 => by simp [circTo]
  | t + 1 => by
    rw [circTo_succ, List.length_append, Nat.succ_mul]
    have h1 := circTo_count M n t
    have h2 := List.length_filterMap_le (circ1P M n) (comb n (t + 1) 0)
    have h3 := comb_count n (t + 1) 0
    omega
theorem spread_all {P : Int → Prop} {n : Nat} {S l : List Int} (h0 : P 0) (hl : ∀ i : Nat, P (l[i]?.getD 0)) : ∀ k, ∀ x ∈ spreadF n S l k, P x
  | 0, x, hx => by
    unfold spreadF at hx
    simp at hx
    rw [hx.2]; exact h0
  | k + 1, x, hx => by
    rw [spreadF_succ] at hx
    rcases List.mem_or_eq_of_mem_set hx with h | rfl
    · exact spread_all h0 hl k x h
    · exact hl k
theorem kerSP_facts {M : List (List Int)} {n : Nat} (h : MaskOk M n) {S l : List Int} (hl : l ∈ kerSP M S) : l.length = S.length ∧ ∀ i : Nat, -518400 ≤ l[i]?.getD 0 ∧ l[i]?.getD 0 ≤ 518400 := by
  obtain ⟨_, h2, h3, _⟩ := (h.cols S).kern hl
  refine ⟨h2, fun i => ?_⟩
  have := h3 i
  unfold vec at this
  omega
theorem circ1_no {M : List (List Int)} {n : Nat} {S : List Int} (h : (kerSP M S).length ≠ 1) : circ1P M n S = none := by
  unfold circ1P
  match kerSP M S, h with
  | [], _ => rfl
  | [l], h => simp at h
  | _ :: _ :: _, _ => rfl
theorem circ1_zero {M : List (List Int)} {n : Nat} {S l : List Int} (h : kerSP M S = [l]) (h0 : l.contains 0 = true) : circ1P M n S = none := by
  unfold circ1P; rw [h]; simp only [h0]; rfl
theorem circ1_yes {M : List (List Int)} {n : Nat} {S l : List Int} (h : kerSP M S = [l]) (h0 : l.contains 0 = false) : circ1P M n S = some (primV (spreadF n S l S.length)) := by
  unfold circ1P; rw [h]; simp only [h0]; rfl

theorem le_max {k : Nat} (h : k ≤ 100000) : k ≤ maxLen := by unfold maxLen; omega
theorem ne_one {k : Nat} (h : ¬ k = 1) : ((k : Int) != 1) = true := by simpa using (by omega : ¬ ((k : Int) = 1))
theorem ints_row {W : World} {it : Nat} {x : List Int} {sp : List Value} {E : TypeId} (h : W.heap[it]? = some (.cells (x.map (Value.int .i64) ++ sp).toArray E (0, 0))) : IntsAt W (some ⟨it, 0, none⟩) x := by
  intro j hj
  refine ⟨it, 0, rfl, (Array.getElem?_eq_some_iff.1 h).1, ?_⟩
  rw [Nat.zero_add]
  simp [World.cell?, h, List.getElem?_append_left, hj]
theorem ElemI.sp {W : World} {base g cap : Nat} {S : Nat → Prop} {l : List Int} (h : SpRow W g l) (hm : l.length ≤ maxLen) (hS : S g) : ElemI 3 W base S (.slice (some ⟨g, 0, none⟩) l.length cap) l := by
  refine ⟨_, _, cap, rfl, rfl, hm, fun j hj => ⟨g, 0, rfl, hS, h.lt, ?_, ?_⟩⟩
  · obtain ⟨sp, h⟩ := h
    exact .inr ⟨_, _, h⟩
  · rw [Nat.zero_add]; exact h.cell hj
theorem filterMap_snoc {α β : Type} (f : α → Option β) (l : List α) (x : α) : (l ++ [x]).filterMap f = l.filterMap f ++ (f x).toList := by
  rw [List.filterMap_append]; cases h : f x <;> simp [h]
theorem primV_len (l : List Int) : (primV l).length = l.length := by
  unfold primV; split <;> simp [negF, shortF_len]
def SIt (o Z it b : Nat) : Prop := b ≠ o ∧ b ≠ Z ∧ b ≠ Z + 1 ∧ b ≠ Z + 2 ∧ b ≠ Z + 3 ∧ b ≠ it

def CircI (w : World) (q1 q6 q7 base Z it : Nat) (mv : Value) (W : Nat) (D : List Deferred) (L : List (List Int)) (Y : World) : Prop :=
  ∃ v, Boxed Y q1 23 mv ∧ Boxed Y q6 3 (.int .i64 W) ∧ Boxed Y q7 22 v ∧ Below w.heap.size w Y ∧ Z + 2 ≤ Y.heap.size ∧ RowsO 3 31 Y base (SIt q7 Z it) v L ∧ Marks base Z D Y ∧ (∃ u, Boxed Y Z 3 u) ∧ ∃ u, Boxed Y (Z + 1) 3 u
theorem CircI.keep {w : World} {q1 q6 q7 base Z it it2 : Nat} {mv : Value} {W : Nat} {D : List Deferred} {L : List (List Int)} {A B : World} (h : CircI w q1 q6 q7 base Z it mv W D L A) (hk : Keep (fun k => k ≠ Z + 2 ∧ k ≠ Z + 2 + 1 ∧ k ≠ it2) A B)
    (h1 : q1 < Z) (h6 : q6 < Z) (h7 : q7 < Z) (hw : w.heap.size ≤ Z) (hi : Z + 4 ≤ it2) (e : it = it2) : CircI w q1 q6 q7 base Z it mv W D L B := by
  subst e
  obtain ⟨v, y1, y6, y7, yB, yS, yR, yD, ⟨u0, z0⟩, u1, z1⟩ := h
  refine ⟨v, (hk.block _ y1.lt (by omega)).trans y1, (hk.block _ y6.lt (by omega)).trans y6, (hk.block _ y7.lt (by omega)).trans y7, hk.below yB (by omega) (fun k _ => by omega), Nat.le_trans yS hk.size,
              yR.keep (hk.mono fun k hk => ⟨hk.2.2.2.1, hk.2.2.2.2.1, hk.2.2.2.2.2⟩), yD.keep hk (fun k _ _ hk _ => by omega), ⟨u0, (hk.block _ z0.lt (by omega)).trans z0⟩, u1, (hk.block _ z1.lt (by omega)).trans z1⟩
theorem CircI.below {w : World} {q1 q6 q7 base Z it : Nat} {mv : Value} {W : Nat} {D : List Deferred} {L : List (List Int)} {A B : World} (h : CircI w q1 q6 q7 base Z it mv W D L A) (hb : Below A.heap.size A B) : CircI w q1 q6 q7 base Z it mv W D L B := by
  obtain ⟨v, y1, y6, y7, yB, yS, yR, yD, ⟨u0, z0⟩, u1, z1⟩ := h
  exact ⟨v, (hb.block _ y1.lt).trans y1, (hb.block _ y6.lt).trans y6, (hb.block _ y7.lt).trans y7, chain yB hb, Nat.le_trans yS hb.size, yR.keep (Keep.of_below hb), Marks.keep (Keep.of_below hb : Keep (fun _ => True) A B) (fun _ _ _ _ _ => trivial) yD, ⟨u0, (hb.block _ z0.lt).trans z0⟩, u1, (hb.block _ z1.lt).trans z1⟩
theorem CircI.start {w X wL : World} {q1 q6 q7 base : Nat} {mv v : Value} {W : Nat} {D : List Deferred} {L : List (List Int)} (y1 : Boxed X q1 23 mv) (y6 : Boxed X q6 3 (.int .i64 W)) (y7 : Boxed X q7 22 v) (yB : Below w.heap.size w X)
    (yR : RowsO 3 31 X base (fun b => b ≠ q7) v L) (yD : Marks base X.heap.size D X) (hb : Below X.heap.size X wL) (hs : wL.heap.size = X.heap.size + 2) (z0 : ∃ u, Boxed wL X.heap.size 3 u) (z1 : ∃ u, Boxed wL (X.heap.size + 1) 3 u) (it : Nat) (hi : X.heap.size + 4 ≤ it) : CircI w q1 q6 q7 base X.heap.size it mv W D L wL := by
  refine ⟨v, (hb.block _ y1.lt).trans y1, (hb.block _ y6.lt).trans y6, (hb.block _ y7.lt).trans y7, chain yB hb, by omega, ?_, Marks.keep (Keep.of_below hb : Keep (fun _ => True) X wL) (fun _ _ _ _ _ => trivial) yD, z0, z1⟩
  exact (yR.lt.mono fun q hq => ⟨hq.1, by have := hq.2; omega, by have := hq.2; omega, by have := hq.2; omega, by have := hq.2; omega, by have := hq.2; omega⟩ : RowsO 3 31 X base (SIt q7 X.heap.size it) v L).keep (Keep.of_below hb)
theorem four_lt {Z it s k : Nat} (hs : Z + 4 ≤ s) (hi : it < s) (h : (k = Z + 1 ∨ k = Z) ∨ k = Z + 2 ∨ k = Z + 2 + 1 ∨ k = it) : k < s := by omega
theorem circ_push {w Y w7 w9 : World} {q1 q6 q7 base Z it g cap c5 : Nat} {a5 : Option Addr} {mv v : Value} {W : Nat} {D : List Deferred} {C : List (List Int)} {r : List Int} {vs : List Value} {cx : Array Value} {ox : Nat × Nat}
    (y1 : Boxed Y q1 23 mv) (y6 : Boxed Y q6 3 (.int .i64 W)) (y7 : Boxed Y q7 22 v) (yB : Below w.heap.size w Y) (yS : Z + 2 ≤ Y.heap.size) (yD : Marks base Z D Y) (z0 : ∃ u, Boxed Y Z 3 u) (z1 : ∃ u, Boxed Y (Z + 1) 3 u)
    (hq1 : q1 < base) (hq6 : q6 < base) (hq7 : q7 < base) (hbZ : base ≤ Z) (hwb : w.heap.size ≤ q7) (hn1 : q1 ≠ q7) (hn6 : q6 ≠ q7) (hx : Y.heap[it]? = some (.cells cx 3 ox)) (hi : Z + 4 ≤ it) (hit : it < Y.heap.size)
    (hDo : ∃ o, Y.heap[Z + 2]? = some o ∧ o.isCells = false) (hLo : ∃ o, Y.heap[Z + 2 + 1]? = some o ∧ o.isCells = false)
    (hY7 : Below Y.heap.size Y w7) (ho : w7.ownsRow base 31 1 v C.length vs) (hg : ∀ k, v.ownBlock = some k → SIt q7 Z it k) (he : ∀ j (hj : j < C.length), ∃ u, vs[j]? = some u ∧ ElemI 3 w7 base (SIt q7 Z it) u C[j])
    (hr : SpRow w7 g r) (hgY : Y.heap.size ≤ g) (hrm : r.length ≤ maxLen) {o8 : Obj} (g5 : (w7.alloc o8).grownBy w9 v.ownBlock)
    (own5 : w9.ownsRow base 31 1 (.slice a5 (C.length + 1) c5) (C.length + 1) (vs ++ [.slice (some ⟨g, 0, none⟩) r.length cap])) :
    Y.heap.size ≤ (w9.setCell ⟨q7, 0, none⟩ (.slice a5 (C.length + 1) c5)).heap.size ∧ (∀ k, ((k = Z + 1 ∨ k = Z) ∨ k = Z + 2 ∨ k = Z + 2 + 1 ∨ k = it) → (w9.setCell ⟨q7, 0, none⟩ (.slice a5 (C.length + 1) c5)).heap[k]? = Y.heap[k]?) ∧
      CircI w q1 q6 q7 base Z it mv W D (C ++ [r]) (w9.setCell ⟨q7, 0, none⟩ (.slice a5 (C.length + 1) c5)) := by
  have hb78 : Below w7.heap.size w7 (w7.alloc o8) := (Below.refl _ _).alloc (Nat.le_refl _) _
  have hkw : Keep (fun k => k ≠ q7) w9 (w9.setCell ⟨q7, 0, none⟩ (.slice a5 (C.length + 1) c5)) := Keep.set w9 _ 0 _
  have hs79 : w7.heap.size < w9.heap.size := by have := g5.size; simp at this; omega
  have hs7 := hY7.size
  -- what is not v's own block stays
  have hold9 : ∀ k, k < Y.heap.size → v.ownBlock ≠ some k → w9.heap[k]? = Y.heap[k]? := fun k hk hne =>
    (g5.block k (by rw [World.size_alloc]; omega) (fun e => hne e.symm)).trans ((hb78.block k (by omega)).trans (hY7.block k hk))
  have hold : ∀ k, k < Y.heap.size → k ≠ q7 → v.ownBlock ≠ some k → (w9.setCell ⟨q7, 0, none⟩ (.slice a5 (C.length + 1) c5)).heap[k]? = Y.heap[k]? := fun k hk h7 hne =>
    (hkw.block k (by omega) h7).trans (hold9 k hk hne)
  have hlow : ∀ k, k < base → v.ownBlock ≠ some k := fun k hk e => by have := (ho.lt k e).1; omega
  have hspec : ∀ k, ((k = Z + 1 ∨ k = Z) ∨ k = Z + 2 ∨ k = Z + 2 + 1 ∨ k = it) → v.ownBlock ≠ some k := fun k hk e => by
    obtain ⟨_, h2, h3, h4, h5, h6⟩ := hg k e
    omega
  have hspec2 : ∀ k, ((k = Z + 1 ∨ k = Z) ∨ k = Z + 2 ∨ k = Z + 2 + 1 ∨ k = it) → w9.heap[k]? = Y.heap[k]? := fun k hk => hold9 k (four_lt (by omega) hit hk) (hspec k hk)
  have hv9 : Boxed w9 q7 22 v := (hold9 q7 y7.lt (hlow _ hq7)).trans y7
  have hdef : ∀ k, k < Y.heap.size → Y.heap[k]? = some (.deferred (some [])) → v.ownBlock ≠ some k := fun k hk hd e => by
    rcases ho.2 with ⟨rfl, _⟩ | ⟨g', cap', cur, rfl, hbg, hgg, _⟩
    · simp [Value.ownBlock] at e
    · obtain rfl : g' = k := by simpa [Value.ownBlock] using e
      rw [hY7.block g' hk, hd] at hgg
      cases hgg
  -- the new own block
  have hS' : ∀ k, (Value.slice a5 (C.length + 1) c5).ownBlock = some k → SIt q7 Z it k := by
    intro k hk
    have hkb := (own5.lt k hk).1
    have hty : ∃ c f, w9.heap[k]? = some (.cells c 31 f) := by
      rcases own5.2 with ⟨h, _⟩ | ⟨g', cap', cur, h, _, hh, _⟩
      · rw [h] at hk; simp [Value.ownBlock] at hk
      · rw [h] at hk
        obtain rfl : g' = k := by simpa [Value.ownBlock] using hk
        exact ⟨_, _, hh⟩
    obtain ⟨c, f, hty⟩ := hty
    have hnot : ∀ k', ((k' = Z + 1 ∨ k' = Z) ∨ k' = Z + 2 ∨ k' = Z + 2 + 1 ∨ k' = it) → k = k' → False := fun k' hk' e => by
      subst e
      rw [hspec2 k hk'] at hty
      rcases hk' with (rfl | rfl) | rfl | rfl | rfl
      · obtain ⟨u, z1⟩ := z1
        rw [show Y.heap[Z + 1]? = _ from z1] at hty
        simp at hty
      · obtain ⟨u, z0⟩ := z0
        rw [show Y.heap[k]? = _ from z0] at hty
        simp at hty
      · obtain ⟨o, h1, h2⟩ := hDo
        rw [h1] at hty
        cases hty
        simp [Obj.isCells] at h2
      · obtain ⟨o, h1, h2⟩ := hLo
        rw [h1] at hty
        cases hty
        simp [Obj.isCells] at h2
      · rw [hx] at hty
        simp at hty
    exact ⟨by omega, fun e => hnot Z (by simp) e, fun e => hnot (Z + 1) (by simp) e, fun e => hnot (Z + 2) (by simp) e, fun e => hnot (Z + 2 + 1) (by simp) e, fun e => hnot it (by simp) e⟩
  have hEl : ElemI 3 w7 base (SIt q7 Z it) (.slice (some ⟨g, 0, none⟩) r.length cap) r := ElemI.sp hr hrm ⟨by omega, by omega, by omega, by omega, by omega, by omega⟩
  have hR3 := RowsO.snoc (by decide) ho he hEl hb78 g5 own5 hS'
  refine ⟨by have := hkw.size; omega, fun k hk => hold k (four_lt (by omega) hit hk) (by omega) (hspec k hk), ?_⟩
  have hK : Keep (fun k => k ≠ q7 ∧ v.ownBlock ≠ some k) Y (w9.setCell ⟨q7, 0, none⟩ (.slice a5 (C.length + 1) c5)) :=
    ⟨by rw [hkw.os, g5.os]; exact hb78.os.trans hY7.os, by rw [hkw.tape, g5.tape]; exact hb78.tape.trans hY7.tape, by rw [hkw.output, g5.output]; exact hb78.output.trans hY7.output, by have := hkw.size; omega, fun k hk hs => hold k hk hs.1 hs.2⟩
  obtain ⟨u0, z0⟩ := z0
  obtain ⟨u1, z1⟩ := z1
  have hz1 := z1.lt
  refine ⟨_, (hK.block _ y1.lt ⟨hn1, hlow _ hq1⟩).trans y1, (hK.block _ y6.lt ⟨hn6, hlow _ hq6⟩).trans y6, hv9.set _, ?_, by have := hkw.size; omega, ?_, ?_, ⟨u0, (hK.block _ z0.lt ⟨by omega, hspec _ (by simp)⟩).trans z0⟩, u1, (hK.block _ z1.lt ⟨by omega, hspec _ (by simp)⟩).trans z1⟩
  · exact hK.below yB yB.size (fun k hk => ⟨by omega, hlow k (by omega)⟩)
  · exact hR3.keep (hkw.mono fun k hk => hk.1)
  · exact yD.keep hK (fun k hk hb _ hd => ⟨by omega, hdef k hk hd⟩)
theorem meas2 {n k : Nat} (h : k < n) : n - (intOf (.int .i64 ((k + 1 : Nat) : Int))).toNat < n - (intOf (.int .i64 (k : Int))).toNat := by simp [intOf]; omega

set_option maxRecDepth 100000 in
set_option maxHeartbeats 4000000 in
theorem circuits_c (w : World) (a : Option Addr) (n cap : Nat) (M : Mask) (hn : M.length = n) (hm : n ≤ maxLen) (H : RowsAt w a M) :
    Calls Try.prog 15 #[.slice a n cap] w fun e w' => ∃ v base, w.heap.size ≤ base ∧ Below w.heap.size w w' ∧
      ((okM M = false ∧ e = .returned (.tuple #[.slice none 0 0, .int .i64 1])) ∨ (okM M = true ∧ e = .returned (.tuple #[v, .int .i64 0]) ∧ RowsO 3 31 w' base (fun _ => True) v (circP M (colsM M)))) := by
  have HRK := hid (fun (W : World) (hb : Below w.heap.size w W) => rank_c W a n cap M hn hm (H.below hb))
  cases hok : okM M
  · rw [hok] at HRK
    clear hn H
    refine callsIn_wide (n := 0) |>.1 ?_
    refine callsIn_of_wp_marks Try.func15 rfl trivial ?_ rfl
    simp only [Try.ntmps15, List.size_toArray, List.length_cons, List.length_nil, Nat.reduceAdd, Nat.reduceSub, Array.replicate_succ, Array.replicate_zero, List.push_toArray, List.append_toArray, List.nil_append, List.cons_append]
    gi_wp2_with (refine ⟨trivial, rfl, ?_⟩; gi_at_call 31; refine (callsIn_wide.2 (HRK.out _ ((Below.refl _ w).alloc (Nat.le_refl _) _))).mono ?_; rintro e w1 ⟨hb1, ⟨_, rfl⟩ | ⟨h, _⟩⟩; rotate_left; cases h)
    refine ⟨_, results_tmp2 rfl _ _ _, .slice none 0 0, w.heap.size, Nat.le_refl _, ?_, .inl ⟨trivial, rfl⟩⟩
    exact chain ((Below.refl _ w).alloc (Nat.le_refl _) _) hb1
  · rw [hok] at HRK
    obtain ⟨hM, h1, h6, hc1, hc10⟩ := okM_ok hok
    obtain ⟨b, off, ra, rc, rfl, hb, hc⟩ := rows_head H (by omega)
    have HR := hid H
    have HNN := hid hn
    have HM := hid hM
    have hn0 : 0 < n := by omega
    obtain ⟨W, hW⟩ : ∃ W, W = colsM M := ⟨_, rfl⟩
    rw [← hW] at hc hc1 hc10 HM HRK ⊢
    obtain ⟨rk, hrk⟩ : ∃ rk, rk = rankF M W := ⟨_, rfl⟩
    rw [← hrk] at HRK
    have HRKE := hid hrk
    have hrk6 : rk ≤ 6 := by rw [hrk]; exact Nat.le_trans (rank_le HM.out) h6
    have HMK := hid (show ∀ w, (Instr.makeSlice 31 (.int .i64 (W : Int)) (.int .i64 (W : Int))).run Try.prog w = .ok (.slice (some ⟨w.heap.size, 0, none⟩) W W) (w.alloc (.cells (madeCells #[.int .i64 0] W) 3)) from fun w => run_make_row' 31 3 (.int .i64 0) 8 Try.underlying31 li_int rfl .i64 .i64 W (by omega) (by omega) w)
    have hz : (0 : Int) < (n : Int) := by omega
    clear hn H hM hok hW hrk hm
    refine callsIn_wide (n := 0) |>.1 ?_
    refine callsIn_of_wp_marks Try.func15 rfl trivial ?_ rfl
    simp only [Try.ntmps15, List.size_toArray, List.length_cons, List.length_nil, Nat.reduceAdd, Nat.reduceSub, Array.replicate_succ, Array.replicate_zero, List.push_toArray, List.append_toArray, List.nil_append, List.cons_append]
    gi_wp2_with (refine ⟨trivial, rfl, ?_⟩; gi_at_call 31; refine (callsIn_wide.2 (HRK.out _ ((Below.refl _ w).alloc (Nat.le_refl _) _))).mono ?_; rintro e w1 ⟨hb1, ⟨h, _⟩ | ⟨_, rfl⟩⟩; cases h; refine Stop.of ?_)
    refine Stop.go ?_
    have HS := hid (fun (X : World) (hX : Below w.heap.size w X) => (hX.cell (p := ⟨b, off, none⟩) hb).trans hc)
    have hbw1 := chain ((Below.refl _ w).alloc (Nat.le_refl _) (.cells #[.slice (some ⟨b, off, none⟩) n cap] 23)) hb1
    have hcw1 := HS.out _ hbw1
    have hc1w : w1.cell? ⟨w.heap.size, 0, none⟩ = some (.slice (some ⟨b, off, none⟩) n cap) := (hb1.cell (p := ⟨w.heap.size, 0, none⟩) (by simp)).trans (by rw [World.cell?_alloc_at _ _ _ _ rfl]; rfl)
    obtain ⟨w2, hw2⟩ : ∃ w2, w2 = (w1.alloc (.cells #[.int .i64 W] 3)).alloc (.cells #[.slice none 0 0] 22) := ⟨_, rfl⟩
    have hs2 : w2.heap.size = w1.heap.size + 2 := by rw [hw2]; simp
    have hB6 : Boxed w2 w1.heap.size 3 (.int .i64 W) := by rw [hw2]; exact (Boxed.new w1 3 (.int .i64 W)).alloc _
    have hB7 : Boxed w2 (w1.heap.size + 1) 22 (.slice none 0 0) := by
      rw [hw2]
      have := Boxed.new (w1.alloc (.cells #[.int .i64 W] 3)) 22 (.slice none 0 0)
      rwa [World.size_alloc] at this
    have hb12 : Below w1.heap.size w1 w2 := by rw [hw2]; exact ((Below.refl _ w1).alloc (Nat.le_refl _) _).alloc (by simp) _
    have hB1 : Boxed w2 w.heap.size 23 (.slice (some ⟨b, off, none⟩) n cap) :=
      (hb12.block _ (Nat.lt_of_lt_of_le (by simp) hb1.size)).trans ((hb1.block _ (by simp)).trans (Boxed.new w 23 _))
    have HB1 := hid hB1
    have HB6 := hid hB6
    have HB7 := hid hB7
    have HBW2 := hid (chain hbw1 hb12)
    have HW2 := hid hw2
    have HS2 := hid hs2
    have hsw : w.heap.size < w1.heap.size := Nat.lt_of_lt_of_le (by simp) hb1.size
    obtain ⟨N, hN⟩ : ∃ N : Nat, N = min (rk + 1) W := ⟨_, rfl⟩
    have HNC := hid (show circP M W = circTo M W N by rw [hN, HRKE.out]; rfl)
    have HN := hid hN
    have HN10 := hid (show N ≤ 10 by omega)
    clear hw2 hs2 hB6 hB7 hb12 hB1 hb1 hbw1 hN
    gi_wp2
    all_goals
      rw [← HW2.out]
      first
        | rw [show (rk : Int) + 1 = (N : Int) by have := HN.out; omega]
        | rw [show (W : Int) = (N : Int) by have := HN.out; omega]
      have HBO := hid (show w2.heap.size = w1.heap.size + 2 from HS2.out)
      obtain ⟨I, hI⟩ : ∃ I : Act → World → Prop, I = (fun a' X => ∃ (u0 u2 u3 u4 u5 u8 u9 u10 u11 u12 u13 u14 u15 u16 u17 u18 u19 u20 u21 u22 u23 u24 u25 u26 u27 u28 u31 u32 u33 u34 u35 u36 u37 u38 u39 u40 u41 u42 u43 u44 u45 u46 u47 u48 u49 u50 u51 u52 u53 u54 u55 u56 u57 u58 u59 u60 u61 u62 u63 u64 u65 u66 u67 u68 u69 u70 u71 u72 u73 u74 u75 : Value), ∃ (t : Nat) (D : List Deferred) (v : Value), t ≤ N ∧ Boxed X w.heap.size 23 (.slice (some ⟨b, off, none⟩) n cap) ∧ Boxed X w1.heap.size 3 (.int .i64 W) ∧ Boxed X (w1.heap.size + 1) 22 v ∧ Below w.heap.size w X ∧ w2.heap.size ≤ X.heap.size ∧
        RowsO 3 31 X w2.heap.size (fun b => b ≠ w1.heap.size + 1) v (circTo M W t) ∧ Marks w2.heap.size X.heap.size D X ∧
        a' = ⟨#[u0, .pointer (some ⟨w.heap.size, 0, none⟩), u2, u3, u4, u5, .pointer (some ⟨w1.heap.size, 0, none⟩), .pointer (some ⟨w1.heap.size + 1, 0, none⟩), u8, u9, u10, u11, u12, u13, u14, u15, u16, u17, u18, u19, u20, u21, u22, u23, u24, u25, u26, u27, u28, .int .i64 N, .int .i64 t, u31, u32, u33, u34, u35, u36, u37, u38, u39, u40, u41, u42, u43, u44, u45, u46, u47, u48, u49, u50, u51, u52, u53, u54, u55, u56, u57, u58, u59, u60, u61, u62, u63, u64, u65, u66, u67, u68, u69, u70, u71, u72, u73, u74, u75], D⟩) := ⟨_, rfl⟩
      have HI := hid hI
      clear hI
      obtain ⟨mu, hmu⟩ : ∃ mu : Act → World → Nat, mu = (fun a' _ => N - (intOf (a'.tmps.getD 30 undef)).toNat) := ⟨_, rfl⟩
      have HMU := hid hmu
      clear hmu
      refine wpIn_loop I mu ?_ ?_
      · rw [HI.out]
        exact ⟨_, _, _, _, _, _, _, _, _, _, _, _, _, _, _, _, _, _, _, _, _, _, _, _, _, _, _, _, _, _, _, _, _, _, _, _, _, _, _, _, _, _, _, _, _, _, _, _, _, _, _, _, _, _, _, _, _, _, _, _, _, _, _, _, _, _, _, _, _, _, _, 0, [], _, Nat.zero_le _, HB1.out, HB6.out, HB7.out, HBW2.out, Nat.le_refl _, RowsO.nil _ _ _ _ _, trivial, rfl⟩
      · intro a' X hIX
        rw [HI.out] at hIX
        obtain ⟨u0, hIX⟩ := hIX; obtain ⟨u2, hIX⟩ := hIX; obtain ⟨u3, hIX⟩ := hIX; obtain ⟨u4, hIX⟩ := hIX; obtain ⟨u5, hIX⟩ := hIX; obtain ⟨u8, hIX⟩ := hIX; obtain ⟨u9, hIX⟩ := hIX; obtain ⟨u10, hIX⟩ := hIX; obtain ⟨u11, hIX⟩ := hIX; obtain ⟨u12, hIX⟩ := hIX; obtain ⟨u13, hIX⟩ := hIX; obtain ⟨u14, hIX⟩ := hIX; obtain ⟨u15, hIX⟩ := hIX; obtain ⟨u16, hIX⟩ := hIX; obtain ⟨u17, hIX⟩ := hIX; obtain ⟨u18, hIX⟩ := hIX; obtain ⟨u19, hIX⟩ := hIX; obtain ⟨u20, hIX⟩ := hIX; obtain ⟨u21, hIX⟩ := hIX; obtain ⟨u22, hIX⟩ := hIX; obtain ⟨u23, hIX⟩ := hIX; obtain ⟨u24, hIX⟩ := hIX; obtain ⟨u25, hIX⟩ := hIX; obtain ⟨u26, hIX⟩ := hIX; obtain ⟨u27, hIX⟩ := hIX; obtain ⟨u28, hIX⟩ := hIX; obtain ⟨u31, hIX⟩ := hIX; obtain ⟨u32, hIX⟩ := hIX; obtain ⟨u33, hIX⟩ := hIX; obtain ⟨u34, hIX⟩ := hIX; obtain ⟨u35, hIX⟩ := hIX; obtain ⟨u36, hIX⟩ := hIX; obtain ⟨u37, hIX⟩ := hIX; obtain ⟨u38, hIX⟩ := hIX; obtain ⟨u39, hIX⟩ := hIX; obtain ⟨u40, hIX⟩ := hIX; obtain ⟨u41, hIX⟩ := hIX; obtain ⟨u42, hIX⟩ := hIX; obtain ⟨u43, hIX⟩ := hIX; obtain ⟨u44, hIX⟩ := hIX; obtain ⟨u45, hIX⟩ := hIX; obtain ⟨u46, hIX⟩ := hIX; obtain ⟨u47, hIX⟩ := hIX; obtain ⟨u48, hIX⟩ := hIX; obtain ⟨u49, hIX⟩ := hIX; obtain ⟨u50, hIX⟩ := hIX; obtain ⟨u51, hIX⟩ := hIX; obtain ⟨u52, hIX⟩ := hIX; obtain ⟨u53, hIX⟩ := hIX; obtain ⟨u54, hIX⟩ := hIX; obtain ⟨u55, hIX⟩ := hIX; obtain ⟨u56, hIX⟩ := hIX; obtain ⟨u57, hIX⟩ := hIX; obtain ⟨u58, hIX⟩ := hIX; obtain ⟨u59, hIX⟩ := hIX; obtain ⟨u60, hIX⟩ := hIX; obtain ⟨u61, hIX⟩ := hIX; obtain ⟨u62, hIX⟩ := hIX; obtain ⟨u63, hIX⟩ := hIX; obtain ⟨u64, hIX⟩ := hIX; obtain ⟨u65, hIX⟩ := hIX; obtain ⟨u66, hIX⟩ := hIX; obtain ⟨u67, hIX⟩ := hIX; obtain ⟨u68, hIX⟩ := hIX; obtain ⟨u69, hIX⟩ := hIX; obtain ⟨u70, hIX⟩ := hIX; obtain ⟨u71, hIX⟩ := hIX; obtain ⟨u72, hIX⟩ := hIX; obtain ⟨u73, hIX⟩ := hIX; obtain ⟨u74, hIX⟩ := hIX; obtain ⟨u75, hIX⟩ := hIX
        obtain ⟨t, D, v, ht, hX1, hX6, hX7, hXB, hXS, hXR, hXD, rfl⟩ := hIX
        have c1 := hX1.cell
        have c6 := hX6.cell
        have c7 := hX7.cell
        have HXX := hid (And.intro hX1 (And.intro hX6 (And.intro hX7 (And.intro hXB (And.intro hXS (And.intro hXR hXD))))))
        clear hX1 hX6 hX7 hXB hXS hXR hXD
        by_cases hlt : t < N
        · have hlt' : (t : Int) < (N : Int) := by omega
          have ht1k : t + 1 ≤ 1000 := Nat.le_trans (Nat.le_trans hlt HN10.out) (by decide)
          gi_wp2_with (refine ⟨trivial, rfl, ?_⟩; gi_at_call 60; refine (callsIn_wide.2 (sets_c _ _ _)).mono ?_; rintro e w' ⟨rfl, rfl⟩; refine Stop.of ?_)
          refine Stop.go ?_
          obtain ⟨wL, hwL⟩ : ∃ wL, wL = (X.alloc (.cells #[.int .i64 W] 3)).alloc (.cells #[.int .i64 ((t : Int) + 1)] 3) := ⟨_, rfl⟩
          have hsz : wL.heap.size = X.heap.size + 2 := by rw [hwL]; simp
          have hbL : Below X.heap.size X wL := by rw [hwL]; exact ((Below.refl _ X).alloc (Nat.le_refl _) _).alloc (by simp) _
          have hZ0 : Boxed wL X.heap.size 3 (.int .i64 W) := by rw [hwL]; exact (Boxed.new X 3 (.int .i64 (W : Int))).alloc _
          have hZ1 : Boxed wL (X.heap.size + 1) 3 (.int .i64 ((t + 1 : Nat) : Int)) := by
            rw [hwL]
            have h1 := Boxed.new (X.alloc (.cells #[.int .i64 (W : Int)] 3)) 3 (.int .i64 ((t : Int) + 1))
            rwa [World.size_alloc] at h1
          have hF0 := hZ1.cell
          have hF1 := hZ0.cell
          rw [← hwL]
          clear hwL c1 c6 c7
          obtain ⟨hX1, hX6, hX7, hXB, hXS, hXR, hXD⟩ := HXX.out
          have HBL := hid hbL
          have HSZ := hid hsz
          have hSS := HS2.out
          have hq7 : w1.heap.size + 1 < X.heap.size := hX7.lt
          have hq6 : w1.heap.size < X.heap.size := hX6.lt
          have hq1 : w.heap.size < X.heap.size := hX1.lt
          have hqw : w.heap.size ≤ X.heap.size := hXB.size
          have hW1k : W ≤ 1000 := Nat.le_trans hc10 (by decide)
          gi_wp2
          refine range_ints (gf := 115) (lb := #[.pointer (some ⟨X.heap.size + 1, 0, none⟩), .pointer (some ⟨X.heap.size, 0, none⟩)]) (xs := comb W (t + 1) 0) (fp := fun k => k = X.heap.size + 1 ∨ k = X.heap.size) (E := 3) rfl (enters_of Try.func115 (by kernel_rfl) rfl)
            (iter_sets wL W (t + 1) (X.heap.size + 1) X.heap.size hW1k ht1k (Nat.le_add_left 1 t) (by rw [hsz]; exact Nat.lt_succ_self _) (by rw [hsz]; exact Nat.lt_of_lt_of_le (Nat.lt_succ_self _) (Nat.le_succ _)) hF0 hF1) (Below.refl _ _) (by intro k hk; omega)
            (fun it pre Y => CircI w w.heap.size w1.heap.size (w1.heap.size + 1) w2.heap.size X.heap.size it (.slice (some ⟨b, off, none⟩) n cap) W D (circTo M W t ++ pre.filterMap (circ1P M W)) Y)
            (fun _ _ _ => False) ?hI (fun _ _ _ _ h _ => h) ?h0
            (fun yv => { tmps := #[u0, .pointer (some ⟨w.heap.size, 0, none⟩), u2, u3, u4, u5, .pointer (some ⟨w1.heap.size, 0, none⟩), .pointer (some ⟨w1.heap.size + 1, 0, none⟩), .int .i64 t, yv, u10, u11, u12, u13, u14, u15, u16, u17, u18, u19, u20, u21, u22, u23, u24, u25, u26, u27, u28, .int .i64 N, .int .i64 t, .bool true, .int .i64 t, .int .i64 W, .int .i64 t, .int .i64 ((t : Int) + 1), .func (.func 115) #[] #[.pointer (some ⟨X.heap.size + 1, 0, none⟩), .pointer (some ⟨X.heap.size, 0, none⟩)], yv, u38, u39, u40, u41, u42, u43, u44, u45, u46, u47, u48, u49, u50, u51, u52, u53, u54, u55, u56, u57, u58, u59, u60, u61, u62, u63, u64, u65, u66, u67, u68, u69, u70, u71, u72, u73, u74, u75], defers := [] }) ?assign ?body ?done ?stop
          case hI =>
            intro it s A B hit hI hk
            rw [hsz] at hit hk
            exact hI.keep hk hq1 hq6 hq7 hqw hit rfl
          case h0 =>
            intro it hit
            rw [hsz] at hit
            simp only [List.filterMap_nil, List.append_nil]
            exact CircI.start hX1 hX6 hX7 hXB hXR hXD hbL hsz ⟨_, hZ0⟩ ⟨_, hZ1⟩ it hit
          case assign =>
            intro l v W K hK
            gi_wp2
            exact hK
          case body =>
            clear hX1 hX6 hX7 hXB hXR hXD
            rintro l' it pre x cap' sp Y hit hpre hYI hitY hx hDo hLo
            rw [hsz] at hit hDo hLo ⊢
            have HYI := hid hYI
            obtain ⟨v, y1, y6, y7, yB, yS, yR, yD, _, _⟩ := hYI
            have hxm : x ∈ comb W (t + 1) 0 := hpre.subset (by simp)
            have hxl : x.length = t + 1 := comb_len _ _ _ x hxm
            have hxo : SetOk W x := comb_ok hxm
            have hxi : IntsAt Y (some ⟨it, 0, none⟩) x := ints_row hx
            have PK := hid (pkernel_c Y (some ⟨b, off, none⟩) n cap M HNN.out hn0 HM.out (HR.out.below yB) (some ⟨it, 0, none⟩) x.length cap' x rfl (by rw [hxl]; exact Nat.le_add_left 1 t) (by rw [hxl]; exact ht1k) hxi hxo.2)
            obtain ⟨Kx, hKx⟩ : ∃ Kx, Kx = kerSP M x := ⟨_, rfl⟩
            have HKF := hid (show ∀ l ∈ Kx, l.length = t + 1 ∧ ∀ i : Nat, -518400 ≤ l[i]?.getD 0 ∧ l[i]?.getD 0 ≤ 518400 by rw [hKx, ← hxl]; exact fun l hl => kerSP_facts HM.out hl)
            have HKN := hid (show Kx.length ≠ 1 → circ1P M W x = none by rw [hKx]; exact circ1_no)
            have HKZ := hid (show ∀ l, Kx = [l] → l.contains 0 = true → circ1P M W x = none by rw [hKx]; exact fun l => circ1_zero)
            have HKY := hid (show ∀ l, Kx = [l] → l.contains 0 = false → circ1P M W x = some (primV (spreadF W x l x.length)) by rw [hKx]; exact fun l => circ1_yes)
            rw [← hKx] at PK
            clear hKx
            have hcnt : (circTo M W t ++ pre.filterMap (circ1P M W)).length ≤ 20000 := by
              rw [List.length_append]
              have e1 := circTo_count M W t
              have e2 := List.length_filterMap_le (circ1P M W) pre
              have e3 := hpre.length_le
              have e4 := comb_count W (t + 1) 0
              have e5 : 2 ^ W ≤ 1024 := Nat.pow_le_pow_right (by omega) (show W ≤ 10 from hc10)
              have e6 : t * 2 ^ W ≤ 10 * 1024 := Nat.mul_le_mul (Nat.le_trans (Nat.le_of_lt hlt) HN10.out) e5
              rw [List.length_append, List.length_singleton] at e3
              omega
            have HCN := hid hcnt
            have hfilt := filterMap_snoc (circ1P M W) pre x
            have HFI := hid hfilt
            have HX := hid hx
            have HXO := hid hxo
            have HXI := hid hxi
            have HD := hid hDo
            have HLo := hid hLo
            have hy1 := y1.cell
            have hy6 := y6.cell
            have HY := hid (And.intro y1 (And.intro y6 (And.intro y7 (And.intro yB (And.intro yS (And.intro yR yD))))))
            have hitZ : X.heap.size + 4 ≤ it := hit
            have hity : it < Y.heap.size := hitY
            obtain ⟨T, hT⟩ : ∃ T, T = x.length := ⟨_, rfl⟩
            rw [← hT] at PK HKY hxl ⊢
            have HXL := hid hxl
            have HT := hid hT
            have hT11 : T ≤ 1000 := by rw [hxl]; exact ht1k
            have HYS := hid (fun k hk => four_lt (k := k) (Nat.le_trans hit (Nat.le_of_lt hity)) hity hk)
            have POST := hid (show ∀ W3, Below Y.heap.size Y W3 → circ1P M W x = none → Y.heap.size ≤ W3.heap.size ∧ (∀ k, ((k = X.heap.size + 1 ∨ k = X.heap.size) ∨ k = X.heap.size + 2 ∨ k = X.heap.size + 2 + 1 ∨ k = it) → W3.heap[k]? = Y.heap[k]?) ∧ CircI w w.heap.size w1.heap.size (w1.heap.size + 1) w2.heap.size X.heap.size it (.slice (some ⟨b, off, none⟩) n cap) W D (circTo M W t ++ (pre ++ [x]).filterMap (circ1P M W)) W3 from fun W3 hb h0 => by
              refine ⟨hb.size, fun k hk => hb.block k (HYS.out k hk), ?_⟩
              rw [HFI.out, h0]
              simp only [Option.toList_none, List.append_nil]
              exact HYI.out.below hb)
            clear hT hcnt hfilt hx hxl hxo hxi hDo hLo hpre hxm y1 y6 y7 yB yS yR yD hit hF0 hF1 hbL hZ0 hZ1
            by_cases hk1 : Kx.length = 1
            · obtain ⟨l0, hl0⟩ : ∃ l0, Kx = [l0] := List.length_eq_one_iff.1 hk1
              have HL0 := hid (HKF.out l0 (by rw [hl0]; exact List.mem_singleton.2 rfl))
              have HZ := hid (HKZ.out l0 hl0)
              have HYY := hid (HKY.out l0 hl0)
              rw [hl0] at PK
              clear hk1 hl0 HKN HKZ HKY HKF
              gi_wp2_with (refine ⟨trivial, rfl, ?_⟩; gi_at_call 61; refine (CallsIn.inRound l' (callsIn_wide.2 PK.out)).mono ?_; rintro e w3 ⟨v3, base3, rfl, hbs3, hO3, hb3⟩; refine Stop.of ?_)
              refine Stop.go ?_
              obtain ⟨ka, kc, rfl, hKR⟩ := hO3.rows (fun r hr => by rw [List.mem_singleton.1 hr, HL0.out.1]; exact le_max (Nat.le_trans ht1k (by decide)))
              obtain ⟨kb5, ko5, ra5, rn5, rc5, rfl, hkb5, hkc5, hrn5, hrm5, hri5⟩ := hKR 0 (by simp)
              simp only [List.getElem_cons_zero, Nat.add_zero] at hkc5 hrn5 hri5
              have HCV := hid (containsV w3 ra5 rn5 rc5 l0 hrn5 hrm5 hri5 0)
              have hrT : rn5 = T := by rw [← hrn5, HL0.out.1]; exact HXL.out.symm
              subst hrT
              have HKB := hid hkb5
              have HRI := hid hri5
              have HRN := hid hrn5
              have HB3 := hid hb3
              have HCY := hid (fun (W3 : World) (q o : Nat) (u : Value) (hb : Below Y.heap.size Y W3) (h : Y.cell? ⟨q, o, none⟩ = some u) => show W3.cell? ⟨q, o, none⟩ = some u from (hb.cell (p := ⟨q, o, none⟩) (World.block_lt_of_cell? Y ⟨q, o, none⟩ h)).trans h)
              have hy6' := HCY.out _ _ _ _ hb3 hy6
              simp only [List.length_singleton]
              clear hO3 hKR hkb5 hri5 hrn5 hrm5 hb3 hbs3 PK
              cases h0 : l0.contains 0
              · rw [h0] at HCV
                have HSOME := hid (HYY.out h0)
                clear h0 HYY HZ POST
                gi_wp2_with (refine ⟨trivial, rfl, ?_⟩; gi_at_call 62; refine (CallsIn.inRound l' (callsIn_wide.2 HCV.out)).mono ?_; rintro e w4 ⟨rfl, rfl⟩; refine Stop.of ?_)
                refine Stop.go ?_
                obtain ⟨w5, hw5⟩ : ∃ w5, w5 = w3.alloc (.cells (madeCells #[.int .i64 0] W) 3) := ⟨_, rfl⟩
                have hr5 : SpRow w5 w3.heap.size (List.replicate W 0) := by rw [hw5]; exact ⟨[], by rw [List.append_nil]; exact IntRow.made w3 3 W⟩
                have hb5 : Below w3.heap.size w3 w5 := by rw [hw5]; exact (Below.refl _ _).alloc (Nat.le_refl _) _
                have hs5 : w5.heap.size = w3.heap.size + 1 := by rw [hw5]; simp
                have HR5 := hid hr5
                have HB5 := hid hb5
                have HS5 := hid hs5
                have HW5 := hid hw5
                have hmk := HMK.out
                clear hr5 hb5 hs5 hw5
                gi_wp2
                rw [← HW5.out]
                clear hmk
                gi_loopw [54] (fun i wr => ∃ q : Nat, q ≤ rn5 ∧ i = .int .i64 q ∧ SpRow wr w3.heap.size (spreadF W x l0 q) ∧ Keep (fun k => k ≠ w3.heap.size) w5 wr) (fun i _ => rn5 - (intOf i).toNat)
                case atStart => exact ⟨0, Nat.zero_le _, rfl, HR5.out, Keep.refl _ _⟩
                case round =>
                  obtain ⟨q, hq, rfl, hr, hkp⟩ := hrel
                  have hb35 : Below w3.heap.size w3 wr := hkp.below HB5.out (by have := HS5.out; omega) (fun k hk => by omega)
                  have hbY := chain HB3.out hb35
                  by_cases hlq : q < rn5
                  · have hqx : q < x.length := by rw [← HT.out]; exact hlq
                    have hcx : wr.cell? ⟨it, q, none⟩ = some (.int .i64 (x[q]?.getD 0)) := by
                      obtain ⟨b7, o7, e7, _, h7⟩ := (HXI.out.below hbY) q hqx
                      cases e7
                      rw [Nat.zero_add] at h7
                      exact h7
                    have hpb := HXO.out.get hqx
                    have hsn := spreadF_succ W x l0 q
                    have hxq : x[q]?.getD 0 = x[q] := by rw [List.getElem?_eq_getElem hqx]; rfl
                    rw [hxq] at hcx hsn
                    obtain ⟨p, hp⟩ : ∃ p : Nat, x[q] = (p : Int) := ⟨(x[q]).toNat, by omega⟩
                    rw [hp] at hcx hpb hsn
                    rw [Int.toNat_natCast] at hsn
                    obtain ⟨hp0, hpW⟩ := hpb
                    have hcl : wr.cell? ⟨kb5, ko5, none⟩ = some (.slice ra5 rn5 rc5) := (hb35.cell (p := ⟨kb5, ko5, none⟩) HKB.out).trans hkc5
                    obtain ⟨b8, o8, e8, _, hc8⟩ := (HRI.out.below hb35) q (by rw [HRN.out]; exact hlq)
                    subst e8
                    obtain ⟨z, hz⟩ : ∃ z, z = l0[q]?.getD 0 := ⟨_, rfl⟩
                    rw [← hz] at hc8 hsn
                    have hlenF : (spreadF W x l0 q).length = W := spreadF_len _ _ _ _
                    have hpW' : p < W := by omega
                    have hoc := hr.cell (j := p) (by rw [hlenF]; exact hpW')
                    obtain ⟨y, hy⟩ : ∃ y, y = (spreadF W x l0 q)[p]?.getD 0 := ⟨_, rfl⟩
                    rw [← hy] at hoc
                    have hof := hr.frozen p
                    have hlt3 := hr.lt
                    have HSET := hid (hr.set p (by rw [hlenF]; exact hpW') z)
                    rw [← hsn] at HSET
                    have HKP := hid hkp
                    have i1 : (0 : Int) ≤ (q : Int) := by omega
                    have i2 : (q : Int) < (rn5 : Int) := by omega
                    clear hxq hp hz hy hsn hqx hlenF hr hkp hb35 hbY
                    gi_wp2
                    exact ⟨⟨q + 1, hlq, by first | rfl | exact cast1 q, HSET.out, HKP.out.trans (Keep.set _ _ _ _)⟩, meas hlq⟩
                  · obtain rfl : q = rn5 := by omega
                    have hB3q := HB3.out.size
                    have hlen := spreadF_len W x l0 q
                    have HPR := hid (fun (X' : World) (hX : SpRow X' w3.heap.size (spreadF W x l0 q)) => primitive_c X' w3.heap.size W W (spreadF W x l0 q) hlen (le_max (Nat.le_trans hc10 (by decide))) hX (fun y hy => by
                      have h1 := spread_all (P := fun z => -518400 ≤ z ∧ z ≤ 518400) (by decide) HL0.out.2 q y hy
                      exact ⟨Int.le_trans (by decide) h1.1, Int.le_trans h1.2 (by decide)⟩))
                    have HYB := hid hbY
                    have HHR := hid hr
                    have HH35 := hid hb35
                    have hss := hr.lt
                    obtain ⟨v, y1, y6, y7, yB, yS, yR, yD⟩ := HYI.out
                    have y7c := y7.cell
                    have HS7 := hid (fun (X' : World) (hX : Below Y.heap.size Y X') => HCY.out X' _ _ _ hX y7c)
                    have HYR := hid yR
                    have HY7 := hid y7
                    clear hr hkp hb35 y1 y6 yB yS yR yD y7 y7c hlen
                    gi_wp2
                    refine round_region (fun j w' => decide (j < 5) = true → w'.cell? ⟨w1.heap.size + 1, 0, none⟩ = some v) l' 0 (by kernel_rfl) (by kernel_rfl) (fun ⟨_, _, h⟩ => h) ?_
                    have hHd : SpRow wr.drew w3.heap.size (spreadF W x l0 q) := HHR.out
                    have hYd : Below Y.heap.size Y wr.drew := HYB.out.drew
                    have hsd : w3.heap.size < wr.drew.heap.size := hss
                    generalize wr.drew = wd at hHd hYd hsd ⊢
                    have hv0 := HS7.out wd hYd
                    refine AnyT.takeD (i := 0) (v := v) rfl rfl (by kernel_rfl) (by kernel_rfl) (by kernel_rfl) (by first | exact (fun _ _ _ h => h) | exact (fun _ _ _ h => absurd h.1 (by simp))) (by kernel_rfl) (by rfl) (by rintro w' q5; go_simp) hv0 ?_; go_frame
                    refine AnyT.takeD (i := 1) (v := .slice (some ⟨w3.heap.size, 0, none⟩) W W) rfl rfl (by kernel_rfl) (by kernel_rfl) (by kernel_rfl) (by first | exact (fun _ _ _ h => h) | exact (fun _ _ _ h => absurd h.1 (by simp))) (by kernel_rfl) (by rfl) (by rintro w' q5; go_simp) hv0 ?_; go_frame
                    refine AnyT.next (i := 2) (by kernel_rfl) rfl (wpOp_of_list rfl ?_)
                    go_wp2_with (go_at_call 63; refine (HPR.out wd hHd).mono ?_; rintro e w7 ⟨rfl, hs7, hk7⟩; refine Stop.of ?_)
                    refine Stop.go ?_
                    have hY7 : Below Y.heap.size Y w7 := hk7.below hYd hYd.size (fun k hk => Nat.ne_of_lt (Nat.lt_of_lt_of_le hk hB3q))
                    have hv7 := HS7.out w7 hY7
                    go_wp2
                    refine ⟨fun _ => hv7, ?_⟩
                    refine AnyT.next (i := 3) (by kernel_rfl) rfl (wpOp_of_list rfl ?_)
                    go_wp2
                    have hb78 : Below w7.heap.size w7 (w7.alloc (.cells #[.slice (some ⟨w3.heap.size, 0, none⟩) W W] 31)) := (Below.refl _ _).alloc (Nat.le_refl _) _
                    have hY8 := chain hY7 hb78
                    refine ⟨fun _ => HS7.out _ hY8, ?_⟩
                    refine AnyT.next (i := 4) (by kernel_rfl) rfl (wpOp_of_list rfl ?_)
                    obtain ⟨vs, ho, hg, he⟩ := HYR.out.keep (Keep.of_below hY7 : Keep _ Y w7)
                    obtain ⟨C, hC⟩ : ∃ C, C = (circTo M W t ++ pre.filterMap (circ1P M W)) := ⟨_, rfl⟩
                    rw [← hC] at ho he
                    have hCn : C.length ≤ 20000 := by rw [hC]; exact HCN.out
                    have hfin : circTo M W t ++ (pre ++ [x]).filterMap (circ1P M W) = C ++ [primV (spreadF W x l0 q)] := by rw [HFI.out, HSOME.out, ← List.append_assoc, ← hC, HT.out]; rfl
                    have hrl : (primV (spreadF W x l0 q)).length = W := by rw [primV_len]; exact spreadF_len _ _ _ _
                    obtain ⟨P, hP⟩ : ∃ P, P = primV (spreadF W x l0 q) := ⟨_, rfl⟩
                    rw [← hP] at hfin hrl hs7
                    have M1 := hid (show C.length + 1 ≤ maxLen from le_max (Nat.le_trans (Nat.succ_le_succ hCn) (by decide)))
                    have M2 := hid (show (C.length + 1) * 24 ≤ 140737488355328 from Nat.le_trans (Nat.mul_le_mul_right 24 (Nat.succ_le_succ hCn)) (by decide))
                    have M3 := hid (show w2.heap.size ≤ (w7.alloc (.cells #[.slice (some ⟨w3.heap.size, 0, none⟩) W W] 31)).heap.size from Nat.le_trans (Nat.le_trans hXS (Nat.le_trans (Nat.le_add_right _ _) (Nat.le_trans hitZ (Nat.le_of_lt hity)))) hY8.size)
                    have HO := hid ho
                    have HG := hid hg
                    have HE := hid he
                    have HFIN := hid hfin
                    have HRL := hid hrl
                    have HS7' := hid hs7
                    have HY7' := hid hY7
                    clear ho hg he hfin hrl hs7 hP hC hY7 hv7
                    (refine wpList_app _ rfl (.tmp 69) (.tmp 72) 22 rfl w2.heap.size 31 (.slice none 0 0) 1 24 Try.underlying22 li_ints rfl Nat.one_pos v C.length vs rfl (HO.out.alloc _) (some ⟨w7.heap.size, 0, none⟩) 1 1 [.slice (some ⟨w3.heap.size, 0, none⟩) W W] rfl rfl no_none (one_news w7 _ _) (slice_oneCell _ _ _) M1.out M2.out M3.out ?_)
                    intro a5 c5 w9 own5 g5
                    have hn7 : some (w1.heap.size + 1) ≠ v.ownBlock := fun e => by
                      have h1 := (HO.out.lt _ e.symm).1
                      rw [HS2.out] at h1
                      exact absurd h1 (Nat.not_le_of_lt (Nat.lt_succ_self _))
                    have hB79 : Boxed w9 (w1.heap.size + 1) 22 v := (g5.block _ (by rw [World.size_alloc]; exact Nat.lt_succ_of_lt (Nat.lt_of_lt_of_le HY7.out.lt HY7'.out.size)) hn7).trans ((Below.heap_alloc _ _ _ (Nat.lt_of_lt_of_le HY7.out.lt HY7'.out.size)).trans ((HY7'.out.block _ HY7.out.lt).trans HY7.out))
                    have hc9 := hB79.cell
                    have hf9 := hB79.frozen
                    refine And.intro (fun _ => hc9) ?_
                    have HOWN5 := hid own5
                    have HG5 := hid g5
                    clear own5 g5 hn7 hB79
                    refine AnyT.next (i := 5) (by kernel_rfl) rfl (wpOp_of_list rfl ?_)
                    go_wp2
                    refine ⟨fun h => absurd h (by decide), by kernel_rfl, ?_⟩
                    obtain ⟨v', y1, y6, y7, yB, yS, yR, yD, z0, z1⟩ := HYI.out
                    have hpush := circ_push (r := P) (cap := W) y1 y6 HY7.out yB yS yD z0 z1 (by rw [HS2.out]; exact Nat.lt_trans hsw (Nat.lt_succ_of_lt (Nat.lt_succ_self _))) (by rw [HS2.out]; exact Nat.lt_succ_of_lt (Nat.lt_succ_self _)) (by rw [HS2.out]; exact Nat.lt_succ_self _) hXS (Nat.le_succ_of_le (Nat.le_of_lt hsw)) (Nat.ne_of_lt (Nat.lt_succ_of_lt hsw)) (Nat.ne_of_lt (Nat.lt_succ_self _)) HX.out hitZ hity HD.out HLo.out
                      HY7'.out HO.out HG.out HE.out HS7'.out hB3q (by rw [HRL.out]; exact le_max (Nat.le_trans hc10 (by decide))) HG5.out (by rw [HRL.out]; exact HOWN5.out)
                    rw [← HFIN.out] at hpush
                    exact hpush
              · rw [h0] at HCV
                have HNO := hid (HZ.out h0)
                clear h0 HYY HZ
                gi_wp2_with (refine ⟨trivial, rfl, ?_⟩; gi_at_call 62; refine (CallsIn.inRound l' (callsIn_wide.2 HCV.out)).mono ?_; rintro e w4 ⟨rfl, rfl⟩)
                exact POST.out _ HB3.out HNO.out
            · obtain ⟨kl, hkl⟩ : ∃ kl, kl = Kx.length := ⟨_, rfl⟩
              have hne : ((kl : Int) != 1) = true := ne_one (by rw [hkl]; exact hk1)
              have HNO := hid (HKN.out hk1)
              have HKL := hid hkl
              clear hk1 hkl
              gi_wp2_with (refine ⟨trivial, rfl, ?_⟩; gi_at_call 61; refine (CallsIn.inRound l' (callsIn_wide.2 PK.out)).mono ?_; rintro e w3 ⟨v3, base3, rfl, hbs3, hO3, hb3⟩; refine Stop.of ?_)
              refine Stop.go ?_
              obtain ⟨ka, kc, rfl, hKR⟩ := hO3.rows (fun r hr => le_max (Nat.le_trans (Nat.le_of_eq (HKF.out r hr).1) (Nat.le_trans ht1k (by decide))))
              rw [← HKL.out]
              gi_wp2
              refine ⟨trivial, ?_⟩
              gi_wp2
              exact POST.out _ hb3 HNO.out
          case done =>
            rintro it Y hit ⟨v, y1, y6, y7, yB, yS, yR, yD, _, _⟩ hK
            rw [hsz] at hit hK ⊢
            gi_wp2
            rw [HI.out, HMU.out, cast1]
            refine ⟨⟨_, _, _, _, _, _, _, _, _, _, _, _, _, _, _, _, _, _, _, _, _, _, _, _, _, _, _, _, _, _, _, _, _, _, _, _, _, _, _, _, _, _, _, _, _, _, _, _, _, _, _, _, _, _, _, _, _, _, _, _, _, _, _, _, _, _, _, _, _, _, _, t + 1, _, v, hlt, y1, y6, y7, yB, Nat.le_trans hXS (Nat.le_trans (Nat.le_add_right _ _) yS), ?_, ?_, rfl⟩, ?_⟩
            · rw [circTo_succ]
              exact yR.mono fun q hq => hq.1
            · exact ⟨X.heap.size + 2, Nat.le_trans hXS (Nat.le_add_right _ _), (Array.getElem?_eq_some_iff.1 hK).1, rfl, hK, yD.up (Nat.le_add_right _ _)⟩
            · exact meas2 hlt
          case stop => intro c pre W _ h _; exact h.elim
        · obtain rfl : t = N := by omega
          gi_wp2
          obtain ⟨hX1, hX6, hX7, hXB, hXS, hXR, hXD⟩ := HXX.out
          rw [HNC.out]
          refine Marks.leave D X.heap.size X hXD fun w' hk => ?_
          refine ⟨_, results_tmp2 rfl _ _ _, v, w2.heap.size, by have := HS2.out; omega, ?_, rfl, ?_⟩
          · exact hk.below hXB hXB.size (fun k hk => .inl (Nat.lt_of_lt_of_le hk HBW2.out.size))
          · exact hXR.keepT hk
end Go.Proofs.Ytfipebkhomppmaa

namespace Go.Proofs.Ytfipebkhomppmaa
open Go.RowKit
set_option linter.unusedVariables false

theorem lvls_count (n : Nat) : ∀ k, (lvls n k).length ≤ (k + 1) * 2 ^ n
  | 0 => by have := comb_count n 0 0; show (comb n 0 0).length ≤ _; omega
  | k + 1 => by
    show (lvls n k ++ comb n (k + 1) 0).length ≤ _
    rw [List.length_append, Nat.succ_mul]
    have h1 := lvls_count n k
    have h3 := comb_count n (k + 1) 0
    omega
theorem allS_le {n : Nat} (h : n ≤ 10) : (allS n).length ≤ 20000 := by
  have h1 := lvls_count n n
  have h2 : 2 ^ n ≤ 2 ^ 10 := Nat.pow_le_pow_right (by decide) h
  have h3 : (n + 1) * 2 ^ n ≤ 11 * 2 ^ 10 := Nat.mul_le_mul (by omega) h2
  unfold allS
  omega
end Go.Proofs.Ytfipebkhomppmaa

namespace Go.Proofs.Ytfipebkhomppmaa
open Go.RowKit
set_option linter.unusedVariables false

theorem RowN.sp {N : Option Nat} {X : World} {g n c : Nat} {P : List Int} (h : RowN N X (.slice (some ⟨g, 0, none⟩) n c) P) (h0 : 0 < P.length) : SpRow X g P := by
  rcases h with ⟨g', c', e, hs, _⟩ | ⟨rfl, _⟩
  · cases e; exact hs
  · simp at h0
theorem RedS.drop {w : World} {R0 : Nat} {A : World} {l d r q p : Value} {left done rest : List (List Int)} {P : List Int} {J : List Nat} (h : RedS w R0 A l d r q p left done rest P J) : RedS w R0 A (.slice none 0 0) d r q p [] done rest P J :=
  ⟨TabN.nil _ _ _, h.hd, h.hr, h.hq, h.hp, h.hb, h.hR, h.hw, fun k hk => by simp [Value.ownBlock] at hk, h.dR, h.pR⟩

end Go.Proofs.Ytfipebkhomppmaa

namespace Go.Proofs.Ytfipebkhomppmaa
open Go.RowKit
set_option linter.unusedVariables false

def circ0 (M : List (List Int)) (n : Nat) (S : List Int) : Option (List Int) := if S.length = 0 ∨ M.length + 1 < S.length then none else circ1R M n S
def circK (M : List (List Int)) (n k : Nat) : List (List Int) := ((allS n).take k).filterMap (circ0 M n)
theorem circK_le (M : List (List Int)) (n k : Nat) : (circK M n k).length ≤ (allS n).length := by
  unfold circK
  exact Nat.le_trans (List.length_filterMap_le _ _) (by rw [List.length_take]; exact Nat.min_le_right _ _)
theorem circK_all {M : List (List Int)} {n k : Nat} (hM : MaskOk M n) (h : (allS n).length ≤ k) : circK M n k = circP M n := by
  unfold circK
  rw [List.take_of_length_le h, circ_same hM]
  rfl
end Go.Proofs.Ytfipebkhomppmaa

namespace Go.Proofs.Ytfipebkhomppmaa
open Go.RowKit
set_option linter.unusedVariables false

def circV (M : Mask) : List Int × Int := if okM M = true then (match circP M (colsM M) with | [] => ([], 8) | c :: _ => (c, 0)) else ([], 1)
theorem circV_no {M : Mask} (h : okM M = false) : circV M = ([], 1) := by unfold circV; rw [h]; rfl
theorem circV_none {M : Mask} (h : okM M = true) (hc : circP M (colsM M) = []) : circV M = ([], 8) := by unfold circV; rw [if_pos h, hc]
theorem circV_cons {M : Mask} {c : List Int} {t : List (List Int)} (h : okM M = true) (hc : circP M (colsM M) = c :: t) : circV M = (c, 0) := by unfold circV; rw [if_pos h, hc]
def nzc (l : List Int) : Nat := l.countP (fun x => decide (x ≠ 0))
theorem nzc_take {l : List Int} {k : Nat} (hk : k < l.length) : nzc (l.take (k + 1)) = nzc (l.take k) + if l[k]?.getD 0 = 0 then 0 else 1 := by
  unfold nzc
  rw [List.take_succ_eq_append_getElem hk, List.countP_append, List.getElem?_eq_getElem hk]
  simp only [List.countP_cons, List.countP_nil, Option.getD_some, Nat.zero_add]
  by_cases h : l[k] = 0 <;> simp [h]

def CircRes (p : List Int × Int) (e : Ending) (w : World) : Prop := ∃ b k c, e = .returned (.tuple #[.slice b k c, .int .i64 p.2]) ∧ p.1.length = k ∧ k ≤ maxLen ∧ IntsAt w b p.1
theorem CircRes.nil (z : Int) (w : World) : CircRes ([], z) (.returned (.tuple #[.slice none 0 0, .int .i64 z])) w := ⟨none, 0, 0, rfl, rfl, Nat.zero_le _, fun j hj => by simp at hj⟩

set_option maxHeartbeats 1000000 in
theorem circuit_c (w : World) (a : Option Addr) (n cap : Nat) (M : Mask) (hn : M.length = n) (hm : n ≤ maxLen) (H : RowsAt w a M) :
    Calls Try.prog 19 #[.slice a n cap] w fun e w' => Below w.heap.size w w' ∧ CircRes (circV M) e w' := by
  have HC := hid (circuits_c w a n cap M hn hm H)
  cases hok : okM M
  · rw [circV_no hok]
    rw [hok] at HC
    clear hn H hok
    go_enter Try.func19, Try.ntmps19
    go_wp2_with (go_at_call 15; refine HC.out.mono ?_; rintro e w1 ⟨v, base, hbs, hb1, ⟨_, rfl⟩ | ⟨h, _⟩⟩; rotate_left; cases h)
    go_ret2
    exact ⟨hb1, CircRes.nil _ _⟩
  · rw [hok] at HC
    cases hc : circP M (colsM M) with
    | nil =>
      rw [circV_none hok hc]
      rw [hc] at HC
      clear hn H hok hc
      go_enter Try.func19, Try.ntmps19
      go_wp2_with (go_at_call 15; refine HC.out.mono ?_; rintro e w1 ⟨v, base, hbs, hb1, ⟨h, _⟩ | ⟨_, rfl, hR⟩⟩; cases h; refine Stop.of ?_)
      refine Stop.go ?_
      obtain ⟨b, cap2, rfl, _, _, _⟩ := hR.reads
      simp only [List.length_nil]
      go_wp2
      go_ret2
      exact ⟨hb1, CircRes.nil _ _⟩
    | cons c t =>
      rw [circV_cons hok hc]
      rw [hc] at HC
      clear hn H hok hc
      go_enter Try.func19, Try.ntmps19
      go_wp2_with (go_at_call 15; refine HC.out.mono ?_; rintro e w1 ⟨v, base, hbs, hb1, ⟨h, _⟩ | ⟨_, rfl, hR⟩⟩; cases h; refine Stop.of ?_)
      refine Stop.go ?_
      obtain ⟨b, cap2, rfl, hml, hRA, _⟩ := hR.reads
      obtain ⟨b0, off, ra, rn, rc, rfl, hbs0, hq0, hrn, hrm, hri⟩ := hRA 0 (by simp)
      simp only [List.getElem_cons_zero, Nat.add_zero] at hq0 hrn hri
      obtain ⟨ln, hln⟩ : ∃ ln, ln = (c :: t).length := ⟨_, rfl⟩
      have hl0 : 0 < ln := by rw [hln]; simp
      rw [← hln]
      have hi0 : (0 : Int) < (ln : Int) := by omega
      have HRI := hid hri
      clear hln hR hRA hri
      go_wp2
      go_ret2
      exact ⟨hb1, ra, rn, rc, rfl, hrn, hrm, HRI.out⟩

set_option maxHeartbeats 1000000 in
theorem spark_c (w : World) (a : Option Addr) (n cap : Nat) (M : Mask) (hn : M.length = n) (hm : n ≤ maxLen) (H : RowsAt w a M) :
    Calls Try.prog 17 #[.slice a n cap] w fun e w' => Below w.heap.size w w' ∧ e = .returned (.tuple #[.int .i64 (nzc (circV M).1), .int .i64 (circV M).2]) := by
  have HC := hid (circuit_c w a n cap M hn hm H)
  obtain ⟨⟨l, z⟩, hlz⟩ : ∃ p, p = circV M := ⟨_, rfl⟩
  rw [← hlz] at HC ⊢
  clear hn H hlz
  simp only []
  go_enter Try.func17, Try.ntmps17
  go_wp2_with (go_at_call 19; refine HC.out.mono ?_; rintro e w1 ⟨hb1, b, k, c, rfl, hlk, hkm, hI⟩; refine Stop.of ?_)
  refine Stop.go ?_
  have HI := hid hI
  have HLK := hid hlk
  have HB1 := hid hb1
  clear hI hlk hb1
  go_wp2
  go_loopw [6, 16] (fun v i wr => ∃ q : Nat, q ≤ k ∧ i = .int .i64 q ∧ v = .int .i64 (nzc (l.take q)) ∧ wr = w1) (fun _ i _ => k - (intOf i).toNat)
  case atStart => exact ⟨0, Nat.zero_le _, rfl, rfl, rfl⟩
  case round =>
    obtain ⟨q, hq, rfl, rfl, rfl⟩ := hrel
    by_cases hlt : q < k
    · have hql : q < l.length := by rw [HLK.out]; exact hlt
      obtain ⟨b0, off, rfl, hbs, hc⟩ := HI.out q hql
      have htk := nzc_take hql
      obtain ⟨x, hx⟩ : ∃ x, x = l[q]?.getD 0 := ⟨_, rfl⟩
      rw [← hx] at hc htk
      obtain ⟨m, hm'⟩ : ∃ m, m = nzc (l.take q) := ⟨_, rfl⟩
      rw [← hm'] at htk ⊢
      have hmq : m ≤ q := by rw [hm']; unfold nzc; exact Nat.le_trans List.countP_le_length (by rw [List.length_take]; omega)
      have hkm2 : k ≤ 9223372036854775807 := by unfold maxLen at hkm; omega
      have HTK := hid htk
      clear hx htk hm' hql
      by_cases h0 : x = 0
      · subst h0
        go_wp2
        exact ⟨⟨q + 1, by omega, by go_num, by rw [HTK.out]; rfl, by first | trivial | rfl⟩, by simp [intOf]; omega⟩
      · go_wp2
        exact ⟨⟨q + 1, by omega, by go_num, by rw [HTK.out, if_neg h0]; go_num, by first | trivial | rfl⟩, by simp [intOf]; omega⟩
    · obtain rfl : k = q := by omega
      have hall : l.take k = l := List.take_of_length_le (by rw [HLK.out]; exact Nat.le_refl _)
      rw [hall]
      clear hall
      go_wp2
      go_ret2
      exact ⟨HB1.out, rfl⟩
end Go.Proofs.Ytfipebkhomppmaa

namespace Go.Proofs.Ytfipebkhomppmaa
open Go.RowKit
set_option linter.unusedVariables false

def twoM : Mask := [[1, 1, 0], [0, 1, 1]]
theorem twoM_ok : okM twoM = true := by decide +kernel
theorem twoM_ker : kerSP twoM (allI (colsM twoM)) = [[1, -1, 1]] := by decide +kernel
theorem twoM_circ : circV twoM = ([1, -1, 1], 0) := by decide +kernel

theorem two_rows (w : World) : RowsAt (((w.alloc (.cells #[.int .i64 1, .int .i64 1, .int .i64 0] 3)).alloc (.cells #[.int .i64 0, .int .i64 1, .int .i64 1] 3)).alloc (.cells #[.slice (some ⟨w.heap.size, 0, none⟩) 3 3, .slice (some ⟨w.heap.size + 1, 0, none⟩) 3 3] 31)) (some ⟨w.heap.size + 2, 0, none⟩) twoM := by
  obtain ⟨w1, h1⟩ : ∃ w1, w1 = w.alloc (.cells #[.int .i64 1, .int .i64 1, .int .i64 0] 3) := ⟨_, rfl⟩
  obtain ⟨w2, h2⟩ : ∃ w2, w2 = w1.alloc (.cells #[.int .i64 0, .int .i64 1, .int .i64 1] 3) := ⟨_, rfl⟩
  rw [← h1, ← h2]
  have s1 : w1.heap.size = w.heap.size + 1 := by rw [h1]; simp
  have s2 : w2.heap.size = w.heap.size + 2 := by rw [h2]; simp [s1]
  have i1 : IntsAt w1 (some ⟨w.heap.size, 0, none⟩) [1, 1, 0] := fun j hj => ⟨w.heap.size, 0, rfl, by omega, by
    rw [h1, World.cell?_alloc_at _ _ _ _ (by simp)]
    match j, hj with
    | 0, _ => rfl
    | 1, _ => rfl
    | 2, _ => rfl⟩
  have i2 : IntsAt w2 (some ⟨w1.heap.size, 0, none⟩) [0, 1, 1] := fun j hj => ⟨w1.heap.size, 0, rfl, by omega, by
    rw [h2, World.cell?_alloc_at _ _ _ _ (by simp)]
    match j, hj with
    | 0, _ => rfl
    | 1, _ => rfl
    | 2, _ => rfl⟩
  rw [s1] at i2
  have b2 : Below w1.heap.size w1 w2 := by rw [h2]; exact (Below.refl _ _).alloc (Nat.le_refl _) _
  obtain ⟨o, ho⟩ : ∃ o, o = Obj.cells #[.slice (some ⟨w.heap.size, 0, none⟩) 3 3, .slice (some ⟨w.heap.size + 1, 0, none⟩) 3 3] 31 := ⟨_, rfl⟩
  rw [← ho]
  have b3 : Below w2.heap.size w2 (w2.alloc o) := (Below.refl _ _).alloc (Nat.le_refl _) _
  have hc : ∀ j, (w2.alloc o).cell? ⟨w.heap.size + 2, j, none⟩ = #[Value.slice (some ⟨w.heap.size, 0, none⟩) 3 3, .slice (some ⟨w.heap.size + 1, 0, none⟩) 3 3][j]? := fun j => by
    rw [ho, World.cell?_alloc_at _ _ _ _ (by rw [s2])]
  intro j hj
  match j, hj with
  | 0, _ => exact ⟨_, 0, some ⟨w.heap.size, 0, none⟩, 3, 3, rfl, by simp [s2], hc 0, rfl, by decide, (i1.below b2).below b3⟩
  | 1, _ => exact ⟨_, 0, some ⟨w.heap.size + 1, 0, none⟩, 3, 3, rfl, by simp [s2], hc 1, rfl, by decide, i2.below b3⟩

theorem one_rows (w : World) : RowsAt ((w.alloc (.cells #[.int .i64 1, .int .i64 (-1), .int .i64 1] 3)).alloc (.cells #[.slice (some ⟨w.heap.size, 0, none⟩) 3 3] 31)) (some ⟨w.heap.size + 1, 0, none⟩) [[1, -1, 1]] := by
  obtain ⟨w1, h1⟩ : ∃ w1, w1 = w.alloc (.cells #[.int .i64 1, .int .i64 (-1), .int .i64 1] 3) := ⟨_, rfl⟩
  rw [← h1]
  have s1 : w1.heap.size = w.heap.size + 1 := by rw [h1]; simp
  have i1 : IntsAt w1 (some ⟨w.heap.size, 0, none⟩) [1, -1, 1] := fun j hj => ⟨w.heap.size, 0, rfl, by omega, by
    rw [h1, World.cell?_alloc_at _ _ _ _ (by simp)]
    match j, hj with
    | 0, _ => rfl
    | 1, _ => rfl
    | 2, _ => rfl⟩
  obtain ⟨o, ho⟩ : ∃ o, o = Obj.cells #[.slice (some ⟨w.heap.size, 0, none⟩) 3 3] 31 := ⟨_, rfl⟩
  rw [← ho]
  have b3 : Below w1.heap.size w1 (w1.alloc o) := (Below.refl _ _).alloc (Nat.le_refl _) _
  have hc : ∀ j, (w1.alloc o).cell? ⟨w.heap.size + 1, j, none⟩ = #[Value.slice (some ⟨w.heap.size, 0, none⟩) 3 3][j]? := fun j => by
    rw [ho, World.cell?_alloc_at _ _ _ _ (by rw [s1])]
  intro j hj
  match j, hj with
  | 0, _ => exact ⟨_, 0, some ⟨w.heap.size, 0, none⟩, 3, 3, rfl, by simp [s1], hc 0, rfl, by decide, i1.below b3⟩

set_option maxHeartbeats 1000000 in
theorem two_c (w : World) : Calls Try.prog 59 #[] w fun e w' => Below w.heap.size w w' ∧ ∃ a cap, e = .returned (.slice a 2 cap) ∧ RowsAt w' a twoM := by
  go_enter Try.func59, Try.ntmps59
  go_wp2
  go_ret
  exact ⟨(((Below.refl _ _).alloc (Nat.le_refl _) _).alloc (by simp) _).alloc (by simp; omega) _, _, _, rfl, two_rows w⟩

theorem awake_c (w : World) : Calls Try.prog 14 #[] w fun e w' => e = .returned (.bool true) ∧ Below w.heap.size w w' := by
  go_enter Try.func14, Try.ntmps14
  go_wp2_with (go_at_call 59; refine (two_c _).mono ?_; rintro e w1 ⟨hb1, a, cap, rfl, hR⟩; refine Stop.of ?_)
  refine Stop.go ?_
  have HK := hid (lkernel_c w1 a 2 cap twoM rfl (by decide) hR)
  rw [twoM_ok, twoM_ker] at HK
  clear hR
  go_wp2_with (go_at_call 25; refine HK.out.mono ?_; rintro e w2 ⟨v, base, hbs, hb2, ⟨h, _⟩ | ⟨_, rfl, hO⟩⟩; cases h; refine Stop.of ?_)
  refine Stop.go ?_
  clear HK
  have hb12 := chain hb1 hb2
  obtain ⟨va, vc, rfl, hVR⟩ := hO.rows (fun r hr => by rw [List.mem_singleton.1 hr]; decide)
  have HV := hid hVR
  clear hO hVR hb1 hb2 hbs
  go_wp2_with (go_at_call 59; refine (two_c _).mono ?_; rintro e w3 ⟨hb3, a3, cap3, rfl, hR3⟩; refine Stop.of ?_)
  refine Stop.go ?_
  have HS := hid (spark_c w3 a3 2 cap3 twoM rfl (by decide) hR3)
  rw [twoM_circ] at HS
  have hz3 : nzc [1, -1, 1] = 3 := by decide
  simp only [hz3] at HS
  clear hR3 hz3
  go_wp2_with (go_at_call 17; refine HS.out.mono ?_; rintro e w4 ⟨hb4, rfl⟩; refine Stop.of ?_)
  refine Stop.go ?_
  have HB := hid (chain (chain hb12 hb3) hb4)
  have HV4 := hid ((HV.out.below hb3).below hb4)
  clear HS hb12 hb3 hb4 HV
  have hb6 : Below w4.heap.size w4 ((w4.alloc (.cells #[.int .i64 1, .int .i64 (-1), .int .i64 1] 3)).alloc (.cells #[.slice (some ⟨w4.heap.size, 0, none⟩) 3 3] 31)) := ((Below.refl _ _).alloc (Nat.le_refl _) _).alloc (by simp) _
  have HSL := hid (sameLists_c _ va (some ⟨w4.heap.size + 1, 0, none⟩) 1 vc 1 1 [[1, -1, 1]] [[1, -1, 1]] rfl rfl (by decide) (by decide) (HV4.out.below hb6) (one_rows w4))
  have hd : decide (([[1, -1, 1]] : Mask) = [[1, -1, 1]]) = true := by decide
  rw [hd] at HSL
  have HB6 := hid (chain HB.out hb6)
  clear hb6 hd
  go_wp2_with (go_at_call 21; refine HSL.out.mono ?_; rintro e w7 ⟨rfl, k7, rfl⟩; refine Stop.of ?_)
  refine Stop.go ?_
  go_wp2
  go_ret
  exact ⟨rfl, below_drewN HB6.out k7⟩
end Go.Proofs.Ytfipebkhomppmaa

namespace Go.Proofs.Ytfipebkhomppmaa
open Go.RowKit
set_option linter.unusedVariables false

def SomeB (e : Ending) : Prop := ∃ b, e = .returned (.bool b)
def longB (L : List (List Int)) : Bool := L.any (fun x => decide (100 < x.length))
theorem long_c (w : World) (a : Option Addr) (n cap : Nat) (L : List (List Int)) (hn : L.length = n) (hm : n ≤ maxLen) (H : RowsAt w a L) :
    Calls Try.prog 24 #[.slice a n cap] w fun e w' => e = .returned (.bool (longB L)) ∧ w = w' := by
  have HN := hid hn
  have HH := hid H
  clear hn H
  unfold maxLen at hm
  go_enter Try.func24, Try.ntmps24
  go_wp2
  go_loop [7] (fun i => ∃ k : Nat, k ≤ n ∧ i = .int .i64 k ∧ Hid (∀ j (hj : j < L.length), j < k → ¬ 100 < L[j].length)) (fun i => n - (intOf i).toNat)
  case atStart => exact ⟨0, Nat.zero_le _, rfl, hid (fun j _ h => by omega)⟩
  case round =>
    obtain ⟨k, hk, rfl, HNO⟩ := hrel
    by_cases hlt : k < n
    · have hkl : k < L.length := by rw [HN.out]; exact hlt
      obtain ⟨b, off, ra, rn, rc, rfl, hbs, hq0, hrn, hrm, hri⟩ := HH.out k hkl
      have HST := hid (fun (h : 100 < L[k].length) => show longB L = true from List.any_eq_true.2 ⟨L[k], List.getElem_mem _, by simpa using h⟩)
      have HNX := hid (fun (h : ¬ 100 < L[k].length) => (show ∀ j (hj : j < L.length), j < k + 1 → ¬ 100 < L[j].length from fun j hj hlt => by
        rcases Nat.lt_or_ge j k with h1 | h1
        · exact HNO.out j hj h1
        · have : j = k := by omega
          subst this; exact h))
      rw [hrn] at HST HNX
      clear hrn hri hkl hrm
      by_cases h1 : 100 < rn
      · have HX := hid (HST.out h1)
        have hi : (100 : Int) < (rn : Int) := by omega
        clear HST HNX
        go_wp2
        go_ret
        exact ⟨ret_bool HX.out.symm, rfl⟩
      · have HX := hid (HNX.out h1)
        have hi : ¬ (100 : Int) < (rn : Int) := by omega
        clear HST HNX
        go_wp2
        go_round
        case rel => exact ⟨k + 1, by omega, by go_num, HX⟩
        case measure => simp [intOf]; omega
    · go_wp2
      go_ret
      refine ⟨ret_bool ?_, rfl⟩
      symm
      refine List.any_eq_false.2 fun x hx => ?_
      obtain ⟨i, hi, rfl⟩ := List.mem_iff_getElem.1 hx
      have := HNO.out i hi (by have := HN.out; omega)
      simpa using this
theorem rows_one {W : World} {a2 : Option Addr} {n2 cap2 : Nat} {h : List Int} (hn2 : h.length = n2) (hm2 : n2 ≤ maxLen) (H2 : IntsAt W a2 h) :
    RowsAt (W.alloc (.cells #[.slice a2 n2 cap2] 31)) (some ⟨W.heap.size, 0, none⟩) [h] := by
  have hb : Below W.heap.size W (W.alloc (.cells #[.slice a2 n2 cap2] 31)) := (Below.refl _ _).alloc (Nat.le_refl _) _
  intro j hj
  match j, hj with
  | 0, _ => exact ⟨_, 0, a2, n2, cap2, rfl, by simp, by rw [World.cell?_alloc_at _ _ _ _ rfl]; rfl, hn2, hm2, H2.below hb⟩

end Go.Proofs.Ytfipebkhomppmaa

namespace Go.Proofs.Ytfipebkhomppmaa
open Go.RowKit
set_option linter.unusedVariables false

theorem light_c (w : World) (a : Option Addr) (n cap : Nat) (M : Mask) (hn : M.length = n) (hm : n ≤ maxLen) (H : RowsAt w a M) :
    Calls Try.prog 13 #[.slice a n cap] w fun e w' => SomeB e ∧ w = w' := by
  have HN := hid hn
  have HH := hid H
  clear hn H
  unfold maxLen at hm
  go_enter Try.func13, Try.ntmps13
  go_wp2
  go_loop [3, 8] (fun s i => ∃ k : Nat, k ≤ n ∧ i = .int .i64 k ∧ ∃ z : Int, s = .int .i64 z) (fun _ i => n - (intOf i).toNat)
  case atStart => exact ⟨0, Nat.zero_le _, rfl, _, rfl⟩
  case round =>
    obtain ⟨k, hk, rfl, z, rfl⟩ := hrel
    by_cases hlt : k < n
    · have hkl : k < M.length := by rw [HN.out]; exact hlt
      obtain ⟨b, off, ra, rn, rc, rfl, hbs, hq0, hrn, hrm, hri⟩ := HH.out k hkl
      clear hrn hri hkl hrm
      by_cases h7 : (7 : Int) < (rn : Int)
      · by_cases h10 : (rn : Int) ≤ 10
        · go_wp2
          go_ret
          exact ⟨⟨_, rfl⟩, rfl⟩
        · go_wp2
          go_round
          case rel => exact ⟨k + 1, by omega, by go_num, _, rfl⟩
          case measure => simp [intOf]; omega
      · go_wp2
        go_round
        case rel => exact ⟨k + 1, by omega, by go_num, _, rfl⟩
        case measure => simp [intOf]; omega
    · go_wp2
      go_ret
      exact ⟨⟨_, rfl⟩, rfl⟩
end Go.Proofs.Ytfipebkhomppmaa

namespace Go.Proofs.Ytfipebkhomppmaa
section
open Go.RowKit
set_option linter.unusedVariables false

abbrev Rt := Int × Int
def ratCells (r : Rt) : List Value := [.int .i64 r.1, .int .i64 r.2]
def ratVals (l : List Rt) : List Value := l.flatMap ratCells
theorem ratVals_at (l : List Rt) : ∀ (j i : Nat) (hj : j < l.length), i < 2 → (ratVals l)[j * 2 + i]? = (ratCells l[j])[i]? := by
  induction l with
  | nil => intro j i hj; simp at hj
  | cons f l ih =>
    intro j i hj hi
    show (ratCells f ++ ratVals l)[j * 2 + i]? = _
    cases j with
    | zero => rw [List.getElem?_append_left (by simp [ratCells]; omega)]; simp
    | succ j =>
      rw [List.getElem?_append_right (by simp [ratCells]; omega)]
      have := ih j i (by simpa using hj) hi
      rw [show (j + 1) * 2 + i - (ratCells f).length = j * 2 + i by simp [ratCells]; omega, this]
      simp

def RatsAt (w : World) (a : Option Addr) (l : List Rt) : Prop :=
  ∀ j (hj : j < l.length), ∃ b off, a = some ⟨b, off, none⟩ ∧ b < w.heap.size ∧ w.cell? ⟨b, off + j * 2, none⟩ = some (.int .i64 l[j].1) ∧ w.cell? ⟨b, off + j * 2 + 1, none⟩ = some (.int .i64 l[j].2)
theorem RatsAt.below {w w' : World} {a : Option Addr} {l : List Rt} (h : RatsAt w a l) (hb : Below w.heap.size w w') : RatsAt w' a l := by
  intro j hj
  obtain ⟨b, off, e, hlt, h0, h1⟩ := h j hj
  exact ⟨b, off, e, Nat.lt_of_lt_of_le hlt hb.size, (hb.cell (p := ⟨b, _, none⟩) hlt).trans h0, (hb.cell (p := ⟨b, _, none⟩) hlt).trans h1⟩

def RatsO (W : World) (base : Nat) (v : Value) (l : List Rt) : Prop := W.ownsRow base 46 2 v l.length (ratVals l)
theorem RatsO.nil (W : World) (base : Nat) : RatsO W base (.slice none 0 0) [] := World.ownsRow_nil _ _ _ _
theorem RatsO.below {W W' : World} {base : Nat} {v : Value} {l : List Rt} (h : RatsO W base v l) (hb : Below W.heap.size W W') : RatsO W' base v l := own_below h hb
theorem RatsO.reads {W : World} {base : Nat} {v : Value} {l : List Rt} (h : RatsO W base v l) : ∃ a cap, v = .slice a l.length cap ∧ l.length ≤ maxLen ∧ RatsAt W a l := by
  rcases h.2 with ⟨rfl, h0⟩ | ⟨g, cap, cur, rfl, hbg, hgg, hnc, hcm, hsz, htk⟩
  · exact ⟨none, 0, by rw [h0], by rw [h0]; decide, fun j hj => by omega⟩
  · refine ⟨_, cap, rfl, by omega, fun j hj => ⟨g, 0, rfl, (Array.getElem?_eq_some_iff.1 hgg).1, ?_⟩⟩
    have hc : ∀ i, i < l.length * 2 → W.cell? ⟨g, i, none⟩ = (ratVals l)[i]? := fun i hi =>
      World.ownsRow.cellAt (w := W) (base := base) (e := 46) (size := 2) (g := g) (n := l.length) (cap := cap) (xs := ratVals l) ⟨h.1, .inr ⟨g, cap, cur, rfl, hbg, hgg, hnc, hcm, hsz, htk⟩⟩ i hi
    refine ⟨?_, ?_⟩
    · rw [Nat.zero_add, hc _ (by omega)]; exact ratVals_at l j 0 hj (by omega)
    · rw [Nat.zero_add, hc _ (by omega)]; exact ratVals_at l j 1 hj (by omega)
end

section
open Go.RowKit
set_option linter.unusedVariables false

end

section
open Go.RowKit
set_option linter.unusedVariables false

end
end Go.Proofs.Ytfipebkhomppmaa

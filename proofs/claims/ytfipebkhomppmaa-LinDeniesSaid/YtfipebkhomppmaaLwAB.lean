/- Walks: IsKernel of both. -/
import Derived.Test.YtfipebkhomppmaaLwAA
namespace Go.Proofs.Ytfipebkhomppmaa
open Go.RowKit
set_option linter.unusedVariables false

def isKerB (M : Mask) (h : List Int) : Bool := okM M && (decide (h.length = colsM M) && (milB h && (!nilB h && M.all (fun r => decide (dotV r h = 0)))))
theorem isKer_no1 {M : Mask} {h : List Int} (e : okM M = false) : isKerB M h = false := by unfold isKerB; rw [e]; rfl
theorem isKer_no2 {M : Mask} {h : List Int} (e : h.length ≠ colsM M) : isKerB M h = false := by unfold isKerB; rw [decide_eq_false e]; simp
theorem isKer_no3 {M : Mask} {h : List Int} (e : milB h = false) : isKerB M h = false := by unfold isKerB; rw [e]; simp
theorem isKer_no4 {M : Mask} {h : List Int} (e : nilB h = true) : isKerB M h = false := by unfold isKerB; rw [e]; simp
theorem isKer_no5 {M : Mask} {h : List Int} {k : Nat} (hk : k < M.length) (e : dotV M[k] h ≠ 0) : isKerB M h = false := by
  unfold isKerB; rw [all_stop hk (decide_eq_false e)]; simp
theorem isKer_yes {M : Mask} {h : List Int} (e1 : okM M = true) (e2 : h.length = colsM M) (e3 : milB h = true) (e4 : nilB h = false) (e5 : ∀ j (hj : j < M.length), dotV M[j] h = 0) : isKerB M h = true := by
  unfold isKerB; rw [e1, decide_eq_true e2, e3, e4, all_done (p := fun r => decide (dotV r h = 0)) fun j hj => decide_eq_true (e5 j hj)]; rfl
theorem isKer_all {M : Mask} {h : List Int} (e1 : okM M = true) (e2 : h.length = colsM M) (e3 : milB h = true) (e5 : ∀ j (hj : j < M.length), dotV M[j] h = 0) : isKerB M h = !nilB h := by
  unfold isKerB; rw [e1, decide_eq_true e2, e3, all_done (p := fun r => decide (dotV r h = 0)) fun j hj => decide_eq_true (e5 j hj)]; simp
theorem mil_bnd {h : List Int} (e : milB h = true) : BndL 67108864 h := by
  intro x hx
  have := List.all_eq_true.1 e x hx
  unfold inB at this
  simp only [Bool.and_eq_true, decide_eq_true_eq] at this
  omega
theorem one_bnd {M : Mask} {W : Nat} (h : MaskOk M W) : ∀ r ∈ M, BndL 67108864 r := fun r hr => mem_vec (P := fun x => -((67108864 : Nat) : Int) ≤ x ∧ x ≤ ((67108864 : Nat) : Int)) fun c => by have := h.one r hr c; omega
theorem any_mil (h : List Int) : h.any (fun n => !(inB n (-1000000) 1000000)) = !milB h := by unfold milB; rw [List.not_all_eq_any_not]
theorem any_nil (h : List Int) : h.any (fun n => decide (n ≠ 0)) = !nilB h := by
  unfold nilB; rw [List.not_all_eq_any_not]
  congr 1
  funext n
  simp

theorem isk1 (w : World) : PredI Try.prog 73 #[] w (fun n => decide (n ≠ 0)) := by
  intro x W hb
  by_cases h : x = 0
  · subst h
    go_enter Try.func73, Try.ntmps73
    go_wp2
    go_ret
    exact ⟨rfl, Below.refl _ _⟩
  · have hd : (x != 0) = true := by simpa using h
    have hd2 : decide (x ≠ 0) = true := by simpa using h
    go_enter Try.func73, Try.ntmps73
    go_wp2
    go_ret
    exact ⟨ret_bool hd2.symm, Below.refl _ _⟩

theorem beyond_c (w : World) (m : Int) : Calls Try.prog 72 #[.int .i64 m] w fun e w' => ∃ b, e = .returned (.func (.func 127) #[] #[.pointer (some ⟨b, 0, none⟩)]) ∧ w'.cell? ⟨b, 0, none⟩ = some (.int .i64 m) ∧ b < w'.heap.size ∧ Below w.heap.size w w' := by
  go_enter Try.func72, Try.ntmps72
  go_wp2
  go_ret
  exact ⟨w.heap.size, rfl, by rw [World.cell?_alloc_at _ _ _ _ rfl]; rfl, by simp, (Below.refl _ _).alloc (Nat.le_refl _) _⟩

set_option maxHeartbeats 1000000 in
/-- the sum of a row's numbers times those of a list -/
theorem isKernel_c (w : World) (a a2 : Option Addr) (n cap n2 cap2 : Nat) (M : Mask) (h : List Int) (hn : M.length = n) (hn2 : h.length = n2) (hm : n ≤ maxLen) (hm2 : n2 ≤ maxLen) (H : RowsAt w a M) (H2 : IntsAt w a2 h) :
    Calls Try.prog 27 #[.slice a n cap, .slice a2 n2 cap2] w fun e w' => e = .returned (.bool (isKerB M h)) ∧ Below w.heap.size w w' := by
  have HV := hid (maskValid_c w a n cap M hn hm H)
  cases hok : okM M
  · rw [hok] at HV
    rw [isKer_no1 hok]
    clear hn hn2 H H2 hok
    go_enter Try.func27, Try.ntmps27
    go_wp2_with (go_at_call 69; refine HV.out.mono ?_; rintro e w1 ⟨rfl, hb1⟩)
    go_ret
    exact ⟨rfl, hb1⟩
  · rw [hok] at HV
    obtain ⟨hM, h1, h6, hc1, hc10⟩ := okM_ok hok
    obtain ⟨b, off, ra, rc, rfl, hb, hc⟩ := rows_head H (by omega)
    have hz : (0 : Int) < (n : Int) := by omega
    have hn6 : n ≤ 6 := by omega
    have hc' : w.cell? ⟨b, off, none⟩ = some (.slice ra (colsM M) rc) := hc
    have HS := hid (fun (X : World) (hX : Below w.heap.size w X) => (hX.cell (p := ⟨b, off, none⟩) hb).trans hc)
    by_cases hl : h.length = colsM M
    · have hle : n2 = colsM M := by omega
      have HWID := hid hM.wid
      have HB1 := hid (one_bnd hM)
      have HRR := hid (fun (X : World) (hX : Below w.heap.size w X) => H.below hX)
      have HII := hid (fun (X : World) (hX : Below w.heap.size w X) => H2.below hX)
      have HN := hid hn
      have HN2 := hid hn2
      have HOK := hid hok
      have HLL := hid hl
      obtain ⟨W, hW⟩ : ∃ W, W = colsM M := ⟨_, rfl⟩
      rw [← hW] at hle HS hc1 hc10 HWID
      subst hle
      have hdl : ((n2 : Int) != (n2 : Int)) = false := by simp
      obtain ⟨Bk, hBk⟩ : ∃ Bk, Bk = isKerB M h := ⟨_, rfl⟩
      rw [← hBk]
      have HBK := hid hBk
      clear hBk
      clear hn H H2 hM hok hc hc' hl hb hW hn2
      go_enter Try.func27, Try.ntmps27
      go_wp2_with (go_at_call 69; refine HV.out.mono ?_; rintro e w1 ⟨rfl, hb1⟩; refine Stop.of ?_)
      refine Stop.go ?_
      have hc1' := HS.out w1 hb1
      have HBW1 := hid hb1
      clear hb1 HV
      go_wp2_with (go_at_call 72; refine (beyond_c _ 1000000).mono ?_; rintro e w2 ⟨q, rfl, hq, hqs, hb2⟩; refine Stop.of ?_)
      refine Stop.go ?_
      have HB2 := hid (chain HBW1.out hb2)
      have HCF := hid (containsI w2 a2 n2 cap2 h HN2.out hm2 (HII.out w2 HB2.out) 127 #[.pointer (some ⟨q, 0, none⟩)] (fun n => !(inB n (-1000000) 1000000)) (enters_of Try.func127 (by kernel_rfl) rfl) (beyond1 w2 q 1000000 (by decide) hq hqs))
      rw [any_mil] at HCF
      clear hq hqs hb2
      cases hmil : milB h
      · obtain rfl : Bk = false := by rw [HBK.out]; exact isKer_no3 hmil
        rw [hmil] at HCF
        clear hmil
        go_wp2_with (go_at_call 71; refine HCF.out.mono ?_; rintro e w3 ⟨rfl, hb3⟩)
        go_ret
        exact ⟨rfl, chain HB2.out hb3⟩
      · rw [hmil] at HCF
        have HHB := hid (mil_bnd hmil)
        have HIK := hid (fun e5 => isKer_all HOK.out HLL.out hmil e5)
        clear hmil
        go_wp2_with (go_at_call 71; refine HCF.out.mono ?_; rintro e w3 ⟨rfl, hb3⟩; refine Stop.of ?_)
        refine Stop.go ?_
        have HB3 := hid (chain HB2.out hb3)
        clear HCF hb3
        go_wp2
        go_loopw [29] (fun i wr => ∃ k : Nat, k ≤ n ∧ i = .int .i64 k ∧ wr = w3 ∧ Hid (∀ j (hj : j < M.length), j < k → dotV M[j] h = 0)) (fun i _ => n - (intOf i).toNat)
        case atStart => exact ⟨0, Nat.zero_le _, rfl, rfl, hid (fun j _ hj => by omega)⟩
        case round =>
          obtain ⟨k, hk, rfl, rfl, HNO⟩ := hrel
          by_cases hlt : k < n
          · have hkl : k < M.length := by rw [HN.out]; exact hlt
            obtain ⟨rb, ro, ra2, rn, rc2, e0, hbs, hq0, hrn, hrm, hri⟩ := (HRR.out wr HB3.out) k hkl
            cases e0
            obtain rfl : rn = n2 := by rw [← hrn]; exact HWID.out _ (List.getElem_mem hkl)
            have hD := dot_le (HB1.out M[k] (List.getElem_mem hkl)) HHB.out
            have hg1 := HB1.out M[k] (List.getElem_mem hkl)
            have hdd : dotV M[k] h = sm (fun c => vec M[k] c * vec h c) rn := by unfold dotV; rw [hrn]
            have HST := hid (fun (e : dotV M[k] h ≠ 0) => HBK.out.trans (isKer_no5 hkl e))
            have HNX := hid (fun (e : dotV M[k] h = 0) => (show ∀ j (hj : j < M.length), j < k + 1 → dotV M[j] h = 0 from fun j hj hlt => by
              rcases Nat.lt_or_ge j k with h1 | h1
              · exact HNO.out j hj h1
              · have : j = k := by omega
                subst this; exact e))
            obtain ⟨r, hr⟩ : ∃ r, r = M[k] := ⟨_, rfl⟩
            rw [← hr] at hrn hri hD hg1 hdd HST HNX
            have HRN := hid hrn
            have HRI := hid hri
            have HDL := hid hD
            have HG1 := hid hg1
            have HDD := hid hdd
            have HH2 := hid (HII.out wr HB3.out)
            obtain ⟨wo, hwo⟩ : ∃ wo, wo = wr := ⟨_, rfl⟩
            subst hwo
            have hkn : (k : Int) < (n : Int) := by omega
            clear hrn hri hD hg1 hdd hr hkl
            go_wp2
            go_loopw [7, 35] (fun s i wr => ∃ t : Nat, t ≤ rn ∧ i = .int .i64 t ∧ s = .int .i64 (sm (fun c => vec r c * vec h c) t) ∧ wr = wo) (fun _ i _ => rn - (intOf i).toNat)
            case atStart => exact ⟨0, Nat.zero_le _, rfl, rfl, rfl⟩
            case round =>
              obtain ⟨t, ht, rfl, rfl, rfl⟩ := hrel
              by_cases hlt2 : t < rn
              · have hkl : t < r.length := by rw [HRN.out]; exact hlt2
                have hkl2 : t < h.length := by rw [HN2.out]; exact hlt2
                obtain ⟨b5, off5, rfl, hbs5, hc5⟩ := HRI.out t hkl
                obtain ⟨b6, off6, rfl, hbs6, hc6⟩ := HH2.out t hkl2
                have g1 := HG1.out.get hkl
                have g2 := HHB.out.get hkl2
                have e1 := HDL.out t
                have e2 := HDL.out (t + 1)
                have es : sm (fun c => vec r c * vec h c) (t + 1) = sm (fun c => vec r c * vec h c) t + r[t]?.getD 0 * h[t]?.getD 0 := rfl
                obtain ⟨x, hx⟩ : ∃ x, x = r[t]?.getD 0 := ⟨_, rfl⟩
                obtain ⟨y, hy⟩ : ∃ x, x = h[t]?.getD 0 := ⟨_, rfl⟩
                rw [← hx] at hc5 g1 es
                rw [← hy] at hc6 g2 es
                obtain ⟨s0, hs0⟩ : ∃ x, x = sm (fun c => vec r c * vec h c) t := ⟨_, rfl⟩
                rw [← hs0] at es e1 ⊢
                rw [es] at e2
                have e3 := mul_bnd (show -(67108864 : Int) ≤ x ∧ x ≤ 67108864 by omega) (show -(67108864 : Int) ≤ y ∧ y ≤ 67108864 by omega)
                obtain ⟨m, hmm⟩ : ∃ m, m = x * y := ⟨_, rfl⟩
                rw [← hmm] at es e2 e3
                have w1' : IntKind.i64.wrap (x * y) = m := by rw [← hmm]; exact IntWalk.i64_in _ (by omega)
                have w2' : IntKind.i64.wrap (s0 + m) = s0 + m := IntWalk.i64_in _ (by omega)
                have HES := hid es
                have i1 : (0 : Int) ≤ (t : Int) := by omega
                have i2 : (t : Int) < (rn : Int) := by omega
                clear hx hy hs0 hmm es e1 e2 e3 g1 g2 hkl hkl2
                go_wp2
                exact ⟨⟨t + 1, by omega, by go_num, by rw [HES.out], by first | trivial | rfl⟩, by simp [intOf]; omega⟩
              · obtain rfl : rn = t := by omega
                rw [← HDD.out]
                obtain ⟨z, hz'⟩ : ∃ z, z = dotV r h := ⟨_, rfl⟩
                rw [← hz'] at HST HNX ⊢
                clear hz'
                by_cases hz0 : z = 0
                · have HX := hid (HNX.out hz0)
                  subst hz0
                  clear HST HNX
                  go_wp2
                  exact ⟨⟨k + 1, by omega, by go_num, by first | trivial | rfl, HX⟩, by simp [intOf]; omega⟩
                · have HX := hid (HST.out hz0)
                  clear HST HNX
                  go_wp2
                  go_ret
                  exact ⟨ret_bool HX.out.symm, HB3.out⟩
          · obtain rfl : n = k := by omega
            have HFIN := hid (HIK.out fun j hj => HNO.out j hj (by rw [HN.out] at hj; exact hj))
            have HCF := hid (containsI wr a2 n2 cap2 h HN2.out hm2 (HII.out wr HB3.out) 73 #[] (fun n => decide (n ≠ 0)) (enters_of Try.func73 (by kernel_rfl) rfl) (isk1 wr))
            rw [any_nil] at HCF
            rw [← HFIN.out, ← HBK.out] at HCF
            clear HNO
            go_wp2_with (go_at_call 71; refine HCF.out.mono ?_; rintro e w5 ⟨rfl, hb5⟩)
            go_ret
            exact ⟨rfl, chain HB3.out hb5⟩
    · rw [isKer_no2 hl]
      have hdl : ((n2 : Int) != ((colsM M : Nat) : Int)) = true := by simp; omega
      obtain ⟨W, hW⟩ : ∃ W, W = colsM M := ⟨_, rfl⟩
      rw [← hW] at hdl HS hc1 hc10
      clear hn hn2 H H2 hM hok hc hc' hl hb hW
      go_enter Try.func27, Try.ntmps27
      go_wp2_with (go_at_call 69; refine HV.out.mono ?_; rintro e w1 ⟨rfl, hb1⟩; refine Stop.of ?_)
      refine Stop.go ?_
      have hc1' := HS.out w1 hb1
      have HB1 := hid hb1
      clear hb1
      go_wp2
      go_ret
      exact ⟨rfl, HB1.out⟩
end Go.Proofs.Ytfipebkhomppmaa

/- Walks: IsKernel of the reference; Primitive of both. -/
import Derived.Test.YtfipebkhomppmaaLwAB
namespace Go.Proofs.Ytfipebkhomppmaa
open Go.RowKit
set_option linter.unusedVariables false

set_option maxHeartbeats 1000000 in
theorem r3IsKernel_c (w : World) (a a2 : Option Addr) (n cap n2 cap2 : Nat) (M : Mask) (h : List Int) (hn : M.length = n) (hn2 : h.length = n2) (hm : n ≤ maxLen) (hm2 : n2 ≤ maxLen) (H : RowsAt w a M) (H2 : IntsAt w a2 h) :
    Calls Try.prog 28 #[.slice a n cap, .slice a2 n2 cap2] w fun e w' => e = .returned (.bool (isKerB M h)) ∧ Below w.heap.size w w' := by
  have HV := hid (r2Valid_c w a n cap M hn hm H)
  cases hok : okM M
  · rw [hok] at HV
    rw [isKer_no1 hok]
    clear hn hn2 H H2 hok
    go_enter Try.func28, Try.ntmps28
    go_wp2_with (go_at_call 64; refine HV.out.mono ?_; rintro e w1 ⟨rfl, rfl⟩)
    go_ret
    exact ⟨rfl, Below.refl _ _⟩
  · rw [hok] at HV
    obtain ⟨hM, h1, h6, hc1, hc10⟩ := okM_ok hok
    obtain ⟨b, off, ra, rc, rfl, hb, hc⟩ := rows_head H (by omega)
    have hz : (0 : Int) < (n : Int) := by omega
    have hn6 : n ≤ 6 := by omega
    have hc' : w.cell? ⟨b, off, none⟩ = some (.slice ra (colsM M) rc) := hc
    by_cases hl : h.length = colsM M
    · have hle : n2 = colsM M := by omega
      have HMC := hid (million_c w a2 n2 cap2 h hn2 hm2 H2)
      have HNC := hid (nothing_c w a2 n2 cap2 h hn2 hm2 H2)
      have HWID := hid hM.wid
      have HB1 := hid (one_bnd hM)
      have HRR := hid (fun (X : World) (hX : Below w.heap.size w X) => H.below hX)
      have HII := hid (fun (X : World) (hX : Below w.heap.size w X) => H2.below hX)
      have HN := hid hn
      have HN2 := hid hn2
      have HOK := hid hok
      have HLL := hid hl
      obtain ⟨W, hW⟩ : ∃ W, W = colsM M := ⟨_, rfl⟩
      rw [← hW] at hle hc' hc1 hc10 HWID
      subst hle
      have hdl : ((n2 : Int) != (n2 : Int)) = false := by simp
      obtain ⟨Bk, hBk⟩ : ∃ Bk, Bk = isKerB M h := ⟨_, rfl⟩
      rw [← hBk]
      have HBK := hid hBk
      clear hBk hn H H2 hM hok hc hl hb hW hn2
      go_enter Try.func28, Try.ntmps28
      go_wp2_with (go_at_call 64; refine HV.out.mono ?_; rintro e w1 ⟨rfl, rfl⟩; refine Stop.of ?_)
      refine Stop.go ?_
      cases hmil : milB h
      · obtain rfl : Bk = false := by rw [HBK.out]; exact isKer_no3 hmil
        rw [hmil] at HMC
        clear hmil
        go_wp2_with (go_at_call 74; refine HMC.out.mono ?_; rintro e w1 ⟨rfl, rfl⟩)
        go_ret
        exact ⟨rfl, Below.refl _ _⟩
      · rw [hmil] at HMC
        have HHB := hid (mil_bnd hmil)
        go_wp2_with (go_at_call 74; refine HMC.out.mono ?_; rintro e w1 ⟨rfl, rfl⟩; refine Stop.of ?_)
        refine Stop.go ?_
        cases hnil : nilB h
        · rw [hnil] at HNC
          have HIK := hid (fun e5 => isKer_yes HOK.out HLL.out hmil hnil e5)
          clear hmil hnil
          go_wp2_with (go_at_call 75; refine HNC.out.mono ?_; rintro e w1 ⟨rfl, rfl⟩; refine Stop.of ?_)
          refine Stop.go ?_
          go_wp2
          go_loopw [30] (fun i wr => ∃ k : Nat, k ≤ n ∧ i = .int .i64 k ∧ (∃ q, wr = w.drewN q) ∧ Hid (∀ j (hj : j < M.length), j < k → dotV M[j] h = 0)) (fun i _ => n - (intOf i).toNat)
          case atStart => exact ⟨0, Nat.zero_le _, rfl, ⟨0, rfl⟩, hid (fun j _ hj => by omega)⟩
          case round =>
            obtain ⟨k, hk, rfl, ⟨q, rfl⟩, HNO⟩ := hrel
            by_cases hlt : k < n
            · have hkl : k < M.length := by rw [HN.out]; exact hlt
              obtain ⟨rb, ro, ra2, rn, rc2, e0, hbs, hq0, hrn, hrm, hri⟩ := (HRR.out w (Below.refl _ _)) k hkl
              cases e0
              obtain rfl : rn = n2 := by rw [← hrn]; exact HWID.out _ (List.getElem_mem hkl)
              have HST := hid (fun (e : dotV M[k] h ≠ 0) => HBK.out.trans (isKer_no5 hkl e))
              have HNX := hid (fun (e : dotV M[k] h = 0) => (show ∀ j (hj : j < M.length), j < k + 1 → dotV M[j] h = 0 from fun j hj hlt => by
                rcases Nat.lt_or_ge j k with h1 | h1
                · exact HNO.out j hj h1
                · have : j = k := by omega
                  subst this; exact e))
              have HDT := hid (r2dot_c (w.drewN q) ra2 a2 rn rc2 rn cap2 M[k] h hrn HN2.out (by omega) (Nat.le_refl _) (hri.below (below_drewN (Below.refl _ w) q)) (HII.out _ (below_drewN (Below.refl _ w) q)) (HB1.out M[k] (List.getElem_mem hkl)) HHB.out)
              obtain ⟨z, hz'⟩ : ∃ z, z = dotV M[k] h := ⟨_, rfl⟩
              rw [← hz'] at HST HNX HDT
              have hkn : (k : Int) < (n : Int) := by omega
              clear hrn hri hz' hkl
              by_cases hz0 : z = 0
              · have HX := hid (HNX.out hz0)
                subst hz0
                clear HST HNX
                go_wp2_with (go_at_call 47; refine HDT.out.mono ?_; rintro e w5 ⟨rfl, q5, rfl⟩)
                exact ⟨⟨k + 1, by omega, by go_num, ⟨_, rfl⟩, HX⟩, by simp [intOf]; omega⟩
              · have HX := hid (HST.out hz0)
                have hzb : (z != 0) = true := by simpa using hz0
                clear HST HNX
                go_wp2_with (go_at_call 47; refine HDT.out.mono ?_; rintro e w5 ⟨rfl, q5, rfl⟩)
                go_ret
                exact ⟨ret_bool HX.out.symm, below_drewN (Below.refl _ _) _⟩
            · obtain rfl : n = k := by omega
              have HFIN := hid (HIK.out fun j hj => HNO.out j hj (by rw [HN.out] at hj; exact hj))
              obtain rfl : Bk = true := by rw [HBK.out]; exact HFIN.out
              clear HNO
              go_wp2
              go_ret
              exact ⟨rfl, below_drewN (Below.refl _ _) _⟩
        · obtain rfl : Bk = false := by rw [HBK.out]; exact isKer_no4 hnil
          rw [hnil] at HNC
          clear hmil hnil
          go_wp2_with (go_at_call 75; refine HNC.out.mono ?_; rintro e w1 ⟨rfl, rfl⟩)
          go_ret
          exact ⟨rfl, Below.refl _ _⟩
    · rw [isKer_no2 hl]
      have hdl : ((n2 : Int) != ((colsM M : Nat) : Int)) = true := by simp; omega
      obtain ⟨W, hW⟩ : ∃ W, W = colsM M := ⟨_, rfl⟩
      rw [← hW] at hdl hc' hc1 hc10
      clear hn hn2 H H2 hM hok hc hl hb hW
      go_enter Try.func28, Try.ntmps28
      go_wp2_with (go_at_call 64; refine HV.out.mono ?_; rintro e w1 ⟨rfl, rfl⟩)
      go_ret
      exact ⟨rfl, Below.refl _ _⟩

def primB (l : List Int) : Bool := milB l && (decide (gcdL l = 1) && decide (0 < firstNz l))
theorem firstNz_take {l : List Int} {k : Nat} (hk : k < l.length) : firstNz (l.take (k + 1)) = if firstNz (l.take k) = 0 then l[k]?.getD 0 else firstNz (l.take k) := by
  rw [List.take_succ_eq_append_getElem hk, List.getElem?_eq_getElem hk]
  generalize l.take k = t
  show firstNz (t ++ [l[k]]) = if firstNz t = 0 then l[k] else firstNz t
  generalize l[k] = x
  induction t with
  | nil =>
    simp [firstNz]
    intro h; exact h.symm
  | cons y t ih =>
    have e1 : firstNz (y :: t ++ [x]) = if y = 0 then firstNz (t ++ [x]) else y := rfl
    have e2 : firstNz (y :: t) = if y = 0 then firstNz t else y := rfl
    rw [e1, e2]
    by_cases h : y = 0
    · rw [if_pos h, if_pos h]; exact ih
    · rw [if_neg h, if_neg h, if_neg h]
theorem firstNz_bnd {B : Int} (h0 : 0 ≤ B) : ∀ {l : List Int}, (∀ x ∈ l, -B ≤ x ∧ x ≤ B) → -B ≤ firstNz l ∧ firstNz l ≤ B
  | [], _ => by show -B ≤ 0 ∧ 0 ≤ B; omega
  | x :: l, h => by
    unfold firstNz
    split
    · exact firstNz_bnd h0 fun y hy => h y (List.mem_cons_of_mem _ hy)
    · exact h x (List.mem_cons_self ..)
theorem mil_le {h : List Int} (e : milB h = true) : ∀ x ∈ h, -1000000 ≤ x ∧ x ≤ 1000000 := by
  intro x hx
  have := List.all_eq_true.1 e x hx
  unfold inB at this
  simp only [Bool.and_eq_true, decide_eq_true_eq] at this
  omega
theorem BndL.take' {B : Nat} {l : List Int} (h : BndL B l) (k : Nat) : BndL B (l.take k) := fun x hx => h x (List.mem_of_mem_take hx)

set_option maxHeartbeats 1000000 in
/-- Primitive (package lin) -/
theorem primitiveB_c (w : World) (a : Option Addr) (n cap : Nat) (l : List Int) (hn : l.length = n) (hm : n ≤ maxLen) (H : IntsAt w a l) :
    Calls Try.prog 29 #[.slice a n cap] w fun e w' => e = .returned (.bool (primB l)) ∧ Below w.heap.size w w' := by
  have HN := hid hn
  have HH := hid (fun (X : World) (hX : Below w.heap.size w X) => H.below hX)
  obtain ⟨Bk, hBk⟩ : ∃ Bk, Bk = primB l := ⟨_, rfl⟩
  rw [← hBk]
  have HBK := hid hBk
  clear hn H hBk
  have hm' : n ≤ 9223372036854775807 := by unfold maxLen at hm; omega
  go_enter Try.func29, Try.ntmps29
  go_wp2_with (go_at_call 72; refine (beyond_c _ 1000000).mono ?_; rintro e w2 ⟨q, rfl, hq, hqs, hb2⟩; refine Stop.of ?_)
  refine Stop.go ?_
  have HB2 := hid hb2
  have HCF := hid (containsI w2 a n cap l HN.out hm (HH.out w2 HB2.out) 127 #[.pointer (some ⟨q, 0, none⟩)] (fun n => !(inB n (-1000000) 1000000)) (enters_of Try.func127 (by kernel_rfl) rfl) (beyond1 w2 q 1000000 (by decide) hq hqs))
  rw [any_mil] at HCF
  clear hq hqs hb2
  cases hmil : milB l
  · obtain rfl : Bk = false := by rw [HBK.out]; unfold primB; rw [hmil]; rfl
    rw [hmil] at HCF
    clear hmil
    go_wp2_with (go_at_call 71; refine HCF.out.mono ?_; rintro e w3 ⟨rfl, hb3⟩)
    go_ret
    exact ⟨rfl, chain HB2.out hb3⟩
  · rw [hmil] at HCF
    have hml := mil_le hmil
    have hbl : BndL 1000000 l := fun x hx => by have := hml x hx; omega
    have HBL := hid hbl
    have HG := hid (show Bk = (decide (gcdL l = 1) && decide (0 < firstNz l)) by rw [HBK.out]; unfold primB; rw [hmil]; rfl)
    clear hmil hml hbl
    go_wp2_with (go_at_call 71; refine HCF.out.mono ?_; rintro e w3 ⟨rfl, hb3⟩; refine Stop.of ?_)
    refine Stop.go ?_
    have HB3 := hid (chain HB2.out hb3)
    clear HCF hb3
    go_wp2
    go_loopw [3, 4, 12] (fun g f i wr => ∃ k : Nat, k ≤ n ∧ i = .int .i64 k ∧ g = .int .i64 (gcdL (l.take k)) ∧ f = .int .i64 (firstNz (l.take k)) ∧ Below w.heap.size w wr) (fun _ _ i _ => n - (intOf i).toNat)
    case atStart => exact ⟨0, Nat.zero_le _, rfl, rfl, rfl, HB3.out⟩
    case round =>
      obtain ⟨k, hk, rfl, rfl, rfl, hbk⟩ := hrel
      by_cases hlt : k < n
      · have hkl : k < l.length := by rw [HN.out]; exact hlt
        obtain ⟨b, off, rfl, hbs, hc⟩ := (HH.out wr hbk) k hkl
        have hbd := HBL.out.get hkl
        have hg := gcdL_take hkl
        have hf := firstNz_take hkl
        have hg0 := gcdL_nonneg (l.take k)
        have hgl := gcdL_le (HBL.out.take' k)
        obtain ⟨x, hx⟩ : ∃ x, x = l[k]?.getD 0 := ⟨_, rfl⟩
        rw [← hx] at hc hbd hg hf
        obtain ⟨G, hG⟩ : ∃ G, G = gcdL (l.take k) := ⟨_, rfl⟩
        rw [← hG] at hg hg0 hgl ⊢
        obtain ⟨F, hF⟩ : ∃ G, G = firstNz (l.take k) := ⟨_, rfl⟩
        rw [← hF] at hf ⊢
        have HD := hid (divisor_c wr G x (by omega) (by omega))
        rw [← hg] at HD
        have HB := hid hbk
        have HF := hid hf
        clear hg hG hx hkl hbk hF hf
        by_cases hF0 : F = 0
        · subst hF0
          go_wp2_with (go_at_call 76; refine HD.out.mono ?_; rintro e w1 ⟨rfl, q, rfl⟩)
          exact ⟨⟨k + 1, by omega, by go_num, rfl, by rw [HF.out]; rfl, below_drewN HB.out _⟩, by simp [intOf]; omega⟩
        · go_wp2_with (go_at_call 76; refine HD.out.mono ?_; rintro e w1 ⟨rfl, q, rfl⟩)
          exact ⟨⟨k + 1, by omega, by go_num, rfl, by rw [HF.out, if_neg hF0], below_drewN HB.out _⟩, by simp [intOf]; omega⟩
      · obtain rfl : n = k := by omega
        have e : l.take n = l := List.take_of_length_le (by rw [HN.out]; exact Nat.le_refl _)
        rw [e]
        have hgg := HG.out
        obtain ⟨G, hG⟩ : ∃ G, G = gcdL l := ⟨_, rfl⟩
        obtain ⟨F, hF⟩ : ∃ G, G = firstNz l := ⟨_, rfl⟩
        rw [← hG, ← hF] at hgg ⊢
        have HGG := hid hgg
        have HB := hid hbk
        clear hG hF e hgg hbk
        by_cases h1 : G = 1
        · subst h1
          by_cases h2 : 0 < F
          · obtain rfl : Bk = true := by rw [HGG.out, decide_eq_true h2]; rfl
            go_wp2
            go_ret
            exact ⟨rfl, HB.out⟩
          · obtain rfl : Bk = false := by rw [HGG.out, decide_eq_false h2]; rfl
            go_wp2
            go_ret
            exact ⟨rfl, HB.out⟩
        · have hb1 : (G == 1) = false := by simpa using h1
          obtain rfl : Bk = false := by rw [HGG.out, decide_eq_false h1]; rfl
          go_wp2
          go_ret
          exact ⟨rfl, HB.out⟩
theorem nil_gcd {l : List Int} (h : nilB l = false) : gcdL l ≠ 0 := by
  intro h0
  have := gcdL_zero h0
  have h1 : nilB l = true := List.all_eq_true.2 fun x hx => by simpa using this x hx
  rw [h] at h1; cases h1
theorem nil_gcd' {l : List Int} (h : nilB l = true) : gcdL l = 0 := by
  have h1 : ∀ x ∈ l, x = 0 := fun x hx => by simpa using List.all_eq_true.1 h x hx
  exact Int.zero_dvd.1 (dvd_gcdL fun x hx => by rw [h1 x hx]; exact Int.dvd_refl _)
theorem prim_fix {l : List Int} (h : nilB l = false) : primF l = l ↔ gcdL l = 1 := by
  have h0 := nil_gcd h
  have h1 := gcdL_nonneg l
  rw [primF_eq]
  constructor
  · intro e
    refine Classical.byContradiction fun hne => h0 ?_
    have hg : 1 < gcdL l := by omega
    unfold shortF at e
    rw [if_pos hg] at e
    refine Int.zero_dvd.1 (dvd_gcdL fun x hx => ?_)
    obtain ⟨i, hi, rfl⟩ := List.mem_iff_getElem.1 hx
    have h2 : (l.map (fun x => x.tdiv (gcdL l)))[i]'(by simpa using hi) = l[i] := by simp only [e]
    rw [List.getElem_map] at h2
    have h3 := Int.mul_tdiv_cancel' (gcdL_dvd (List.getElem_mem hi))
    rw [h2] at h3
    have h4 : (gcdL l - 1) * l[i] = 0 := by rw [Int.sub_mul, h3]; omega
    rcases Int.mul_eq_zero.1 h4 with h5 | h5
    · omega
    · rw [h5]; exact Int.dvd_refl _
  · intro e
    unfold shortF
    rw [if_neg (by omega)]
theorem primB_no {l : List Int} (h : nilB l = true) : primB l = false := by unfold primB; rw [decide_eq_false (by rw [nil_gcd' h]; decide)]; simp
theorem primB_ref {l : List Int} (h : milB l = true) (h2 : nilB l = false) : primB l = (decide (primF l = l) && decide (0 < firstNz l)) := by
  unfold primB
  rw [h]
  have : decide (gcdL l = 1) = decide (primF l = l) := decide_eq_decide.2 (prim_fix h2).symm
  rw [this]; rfl

set_option maxHeartbeats 1000000 in
/-- Primitive of the reference -/
theorem r3PrimitiveB_c (w : World) (a : Option Addr) (n cap : Nat) (l : List Int) (hn : l.length = n) (hm : n ≤ 1000) (H : IntsAt w a l) :
    Calls Try.prog 30 #[.slice a n cap] w fun e w' => e = .returned (.bool (primB l)) ∧ Below w.heap.size w w' := by
  have hm1 : n ≤ maxLen := by unfold maxLen; omega
  have HMC := hid (million_c w a n cap l hn hm1 H)
  have HNC := hid (nothing_c w a n cap l hn hm1 H)
  have HN := hid hn
  have HH := hid (fun (X : World) (hX : Below w.heap.size w X) => H.below hX)
  obtain ⟨Bk, hBk⟩ : ∃ Bk, Bk = primB l := ⟨_, rfl⟩
  rw [← hBk]
  have HBK := hid hBk
  have HPR := hid (fun (hb : BndL 4611686018427387904 l) => r3primitive_c w a n cap l hn hm H hb)
  have HPL := hid (show (primF l).length = n by unfold primF; rw [List.length_map, hn])
  clear hn H hBk
  go_enter Try.func30, Try.ntmps30
  cases hmil : milB l
  · obtain rfl : Bk = false := by rw [HBK.out]; unfold primB; rw [hmil]; rfl
    rw [hmil] at HMC
    clear hmil
    go_wp2_with (go_at_call 74; refine HMC.out.mono ?_; rintro e w1 ⟨rfl, rfl⟩)
    go_ret
    exact ⟨rfl, Below.refl _ _⟩
  · rw [hmil] at HMC
    have hml := mil_le hmil
    have HB4 := hid (HPR.out fun x hx => by have := hml x hx; omega)
    clear hml HPR
    go_wp2_with (go_at_call 74; refine HMC.out.mono ?_; rintro e w1 ⟨rfl, rfl⟩; refine Stop.of ?_)
    refine Stop.go ?_
    cases hnil : nilB l
    · rw [hnil] at HNC
      have hpb := HBK.out.trans (primB_ref hmil hnil)
      have HNZ := hid (show ¬ ∀ x ∈ l, x = 0 from fun h => by
        have h1 : nilB l = true := List.all_eq_true.2 fun x hx => by simpa using h x hx
        rw [hnil] at h1; cases h1)
      obtain ⟨P, hP⟩ : ∃ P, P = primF l := ⟨_, rfl⟩
      rw [← hP] at hpb HPL HB4
      have HPB := hid hpb
      clear hmil hnil hP hpb
      go_wp2_with (go_at_call 75; refine HNC.out.mono ?_; rintro e w1 ⟨rfl, rfl⟩; refine Stop.of ?_)
      refine Stop.go ?_
      go_wp2_with (go_at_call 77; refine HB4.out.mono ?_; rintro e w4 ⟨v4, rfl, ho4, hb4⟩; refine Stop.of ?_)
      refine Stop.go ?_
      obtain ⟨pa, pc, rfl, hPI, _⟩ := ints_of_own ho4 HPL.out
      have HSI := hid (sameInts_c w4 pa a n pc n cap P l HPL.out HN.out hm1 hm1 hPI (HH.out w4 hb4))
      have HBW := hid hb4
      clear ho4 hPI hb4 HB4
      by_cases hpl : P = l
      · have hpb := HPB.out
        rw [decide_eq_true hpl] at hpb HSI
        have HFZ := hid (show Bk = decide (0 < firstNz l) from hpb)
        clear hpl hpb
        go_wp2_with (go_at_call 22; refine HSI.out.mono ?_; rintro e w5 ⟨rfl, q5, rfl⟩; refine Stop.of ?_)
        refine Stop.go ?_
        have HB5 := hid (below_drewN HBW.out q5)
        clear HSI
        generalize w4.drewN q5 = w5 at HB5 ⊢
        go_wp2
        go_loopw [21] (fun i wr => ∃ k : Nat, k ≤ n ∧ i = .int .i64 k ∧ wr = w5 ∧ Hid (∀ j, j < k → vec l j = 0)) (fun i _ => n - (intOf i).toNat)
        case atStart => exact ⟨0, Nat.zero_le _, rfl, rfl, hid (fun j h => by omega)⟩
        case round =>
          obtain ⟨k, hk, rfl, rfl, HNO⟩ := hrel
          by_cases hlt : k < n
          · have hkl : k < l.length := by rw [HN.out]; exact hlt
            obtain ⟨b, off, rfl, hbs, hc⟩ := (HH.out wr HB5.out) k hkl
            have HAT := hid (fun (h : vec l k ≠ 0) => firstNz_at (l := l) (i := k) HNO.out h)
            have HNX := hid (fun (h : vec l k = 0) => (show ∀ j, j < k + 1 → vec l j = 0 from fun j hj => by
              rcases Nat.lt_or_ge j k with h1 | h1
              · exact HNO.out j h1
              · have : j = k := by omega
                subst this; exact h))
            have hxv : l[k]?.getD 0 = vec l k := rfl
            rw [hxv] at hc
            obtain ⟨x, hx⟩ : ∃ x, x = vec l k := ⟨_, rfl⟩
            rw [← hx] at hc HAT HNX
            clear hx hkl hxv
            by_cases h0 : x = 0
            · have HX := hid (HNX.out h0)
              subst h0
              clear HAT HNX
              go_wp2
              exact ⟨⟨k + 1, by omega, by go_num, by first | trivial | rfl, HX⟩, by simp [intOf]; omega⟩
            · have HFX := hid (HFZ.out.trans (by rw [HAT.out h0]))
              clear HAT HNX
              by_cases h1 : 0 < x
              · obtain rfl : Bk = true := by rw [HFX.out, decide_eq_true h1]
                go_wp2
                go_ret
                exact ⟨rfl, HB5.out⟩
              · obtain rfl : Bk = false := by rw [HFX.out, decide_eq_false h1]
                go_wp2
                go_ret
                exact ⟨rfl, HB5.out⟩
          · obtain rfl : n = k := by omega
            refine absurd (fun x hx => ?_) HNZ.out
            obtain ⟨i, hi, rfl⟩ := List.mem_iff_getElem.1 hx
            have := HNO.out i (by rw [← HN.out]; exact hi)
            rw [vec_lt hi] at this
            exact this
      · have hpb := HPB.out
        rw [decide_eq_false hpl] at hpb HSI
        obtain rfl : Bk = false := hpb
        clear hpl
        go_wp2_with (go_at_call 22; refine HSI.out.mono ?_; rintro e w5 ⟨rfl, q5, rfl⟩)
        go_ret
        exact ⟨rfl, below_drewN HBW.out _⟩
    · obtain rfl : Bk = false := by rw [HBK.out]; exact primB_no hnil
      rw [hnil] at HNC
      clear hmil hnil
      go_wp2_with (go_at_call 75; refine HNC.out.mono ?_; rintro e w1 ⟨rfl, rfl⟩)
      go_ret
      exact ⟨rfl, Below.refl _ _⟩
end Go.Proofs.Ytfipebkhomppmaa

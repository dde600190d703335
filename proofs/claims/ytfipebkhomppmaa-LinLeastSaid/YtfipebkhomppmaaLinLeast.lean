/- The statement LinLeast: the walk. -/
import Derived.Test.YtfipebkhomppmaaLwAJ
import Derived.Test.YtfipebkhomppmaaOpen
namespace Go.Proofs.Ytfipebkhomppmaa
open Go.RowKit
set_option linter.unusedVariables false

/-- two lists of ints, as a slice of two -/
theorem rows_two {W : World} {a2 a3 : Option Addr} {n2 c2 n3 c3 : Nat} {h l : List Int} (hn2 : h.length = n2) (hm2 : n2 ≤ maxLen) (H2 : IntsAt W a2 h) (hn3 : l.length = n3) (hm3 : n3 ≤ maxLen) (H3 : IntsAt W a3 l) :
    RowsAt (W.alloc (.cells #[.slice a2 n2 c2, .slice a3 n3 c3] 31)) (some ⟨W.heap.size, 0, none⟩) [h, l] := by
  have hb : Below W.heap.size W (W.alloc (.cells #[.slice a2 n2 c2, .slice a3 n3 c3] 31)) := (Below.refl _ _).alloc (Nat.le_refl _) _
  intro j hj
  match j, hj with
  | 0, _ => exact ⟨_, 0, a2, n2, c2, rfl, by simp, by rw [World.cell?_alloc_at _ _ _ _ rfl]; rfl, hn2, hm2, H2.below hb⟩
  | 1, _ => exact ⟨_, 0, a3, n3, c3, rfl, by simp, by rw [World.cell?_alloc_at _ _ _ _ rfl]; rfl, hn3, hm3, H3.below hb⟩
/-- within, and the same, so far -/
def withB (h c : List Int) (t : Nat) : Bool := decide (∀ j, j < t → vec h j = 0 ∨ vec c j ≠ 0)
def sameB (h c : List Int) (t : Nat) : Bool := decide (∀ j, j < t → (vec h j = 0 ↔ vec c j = 0))
theorem withB_succ (h c : List Int) (t : Nat) : withB h c (t + 1) = (withB h c t && (decide (vec h t = 0) || decide (vec c t ≠ 0))) := by
  unfold withB
  rw [Bool.eq_iff_iff]
  simp only [decide_eq_true_eq, Bool.and_eq_true, Bool.or_eq_true]
  constructor
  · intro k; exact ⟨fun j hj => k j (by omega), k t (by omega)⟩
  · rintro ⟨k1, k2⟩ j hj
    rcases Nat.lt_or_ge j t with h1 | h1
    · exact k1 j h1
    · have : j = t := by omega
      subst this; exact k2
theorem sameB_succ (h c : List Int) (t : Nat) : sameB h c (t + 1) = (sameB h c t && (decide (vec h t = 0) == decide (vec c t = 0))) := by
  unfold sameB
  rw [Bool.eq_iff_iff]
  simp only [decide_eq_true_eq, Bool.and_eq_true, beq_iff_eq, decide_eq_decide]
  constructor
  · intro k; exact ⟨fun j hj => k j (by omega), k t (by omega)⟩
  · rintro ⟨k1, k2⟩ j hj
    rcases Nat.lt_or_ge j t with h1 | h1
    · exact k1 j h1
    · have : j = t := by omega
      subst this; exact k2

set_option maxRecDepth 100000 in
set_option maxHeartbeats 4000000 in
theorem linLeast_c (w : World) (a : Option Addr) (n cap : Nat) (M : Mask) (hn : M.length = n) (hm : n ≤ maxLen) (H : RowsAt w a M) (_ : ∀ y ∈ M, ∀ z ∈ y, Fits64 z) (a2 : Option Addr) (n2 cap2 : Nat) (h : List Int) (hn2 : h.length = n2) (hm2 : n2 ≤ maxLen) (H2 : IntsAt w a2 h) (_ : ∀ z ∈ h, Fits64 z)
    (a3 : Option Addr) (n3 cap3 : Nat) (l : List Int) (hn3 : l.length = n3) (hm3 : n3 ≤ maxLen) (H3 : IntsAt w a3 l) (_ : ∀ z ∈ l, Fits64 z) :
    Calls Try.prog 6 #[.slice a n cap, .slice a2 n2 cap2, .slice a3 n3 cap3] w fun e w' => e = .returned (.bool true) ∧ Below w.heap.size w w' := by
  have HAW := hid (fun X => awake_c X)
  have HLI := hid (light_c w a n cap M hn hm H)
  have HLG := hid (long_c (w.alloc (.cells #[.slice a2 n2 cap2, .slice a3 n3 cap3] 31)) (some ⟨w.heap.size, 0, none⟩) 2 2 [h, l] rfl (by decide) (rows_two hn2 hm2 H2 hn3 hm3 H3))
  have HB1 := hid (show Below w.heap.size w (w.alloc (.cells #[.slice a2 n2 cap2, .slice a3 n3 cap3] 31)) from (Below.refl _ _).alloc (Nat.le_refl _) _)
  have HC1 := hid (fun (X : World) (hX : Below w.heap.size w X) => circuits_c X a n cap M hn hm (H.below hX))
  have HK2 := hid (fun (X : World) (hX : Below w.heap.size w X) => r3IsKernel_c X a a2 n cap n2 cap2 M h hn hn2 hm hm2 (H.below hX) (H2.below hX))
  have HKA := hid (fun (X : World) (hX : Below w.heap.size w X) (b : Option Addr) (k c : Nat) (v : List Int) (hk : v.length = k) (hkm : k ≤ maxLen) (hv : IntsAt X b v) => r3IsKernel_c X a b n cap k c M v hn hk hm hkm (H.below hX) hv)
  have HKB := hid (fun (X : World) (hX : Below w.heap.size w X) (b : Option Addr) (k c : Nat) (v : List Int) (hk : v.length = k) (hkm : k ≤ maxLen) (hv : IntsAt X b v) => isKernel_c X a b n cap k c M v hn hk hm hkm (H.below hX) hv)
  have HIN := hid (fun (X : World) (hX : Below w.heap.size w X) => independent_c X a a3 n cap n3 cap3 M l hn hn3 hm hm3 (H.below hX) (H3.below hX))
  have HSP := hid (fun (X : World) (hX : Below w.heap.size w X) => spark_c X a n cap M hn hm (H.below hX))
  have HII := hid (fun (X : World) (hX : Below w.heap.size w X) => H2.below hX)
  obtain ⟨B0, hB0⟩ : ∃ B, B = longB [h, l] := ⟨_, rfl⟩
  rw [← hB0] at HLG
  clear hB0
  cases hok : okM M
  · rw [hok] at HC1
    clear hn hn2 hn3 H H2 H3 hok HK2 HKA HKB HIN HSP HII
    go_enter Try.func6, Try.ntmps6
    go_wp2_with (go_at_call 13; refine HLI.out.mono ?_; rintro e w1 ⟨⟨sb, rfl⟩, rfl⟩; refine Stop.of ?_)
    refine Stop.go ?_
    cases sb
    · go_wp2_with (go_at_call 14; refine (HAW.out _).mono ?_; rintro e w2 ⟨rfl, hb2⟩)
      go_ret
      exact ⟨rfl, hb2⟩
    · go_wp2_with (go_at_call 24; refine HLG.out.mono ?_; rintro e w2 ⟨rfl, hw2⟩; refine Stop.of ?_)
      refine Stop.go ?_
      rw [hw2] at HB1
      clear hw2 HLG HLI
      cases B0
      · go_wp2_with (go_at_call 15; refine (HC1.out _ HB1.out).mono ?_; rintro e w3 ⟨v3, base3, hbs3, hb3, ⟨_, rfl⟩ | ⟨hx, _⟩⟩; rotate_left; cases hx; refine Stop.of ?_)
        refine Stop.go ?_
        have HB3 := hid (chain HB1.out hb3)
        go_wp2_with (go_at_call 14; refine (HAW.out _).mono ?_; rintro e w4 ⟨rfl, hb4⟩)
        go_ret
        exact ⟨rfl, chain HB3.out hb4⟩
      · go_wp2_with (go_at_call 14; refine (HAW.out _).mono ?_; rintro e w3 ⟨rfl, hb3⟩)
        go_ret
        exact ⟨rfl, chain HB1.out hb3⟩
  · rw [hok] at HC1
    have HLAW := hid (fun (c : List Int) (hc : c ∈ circP M (colsM M)) => circ_law hok hc)
    have HSAME := hid (fun (c : List Int) (hk : isKerB M h = true) (hc : c ∈ circP M (colsM M)) (hw : withB h c (colsM M) = true) => show sameB h c (colsM M) = true from decide_eq_true (least_same hk hc (of_decide_eq_true hw)))
    have HKH := hid (fun (hk : isKerB M h = true) => show n2 = colsM M by rw [← hn2]; exact (isKer_ok hk).2.1)
    have hz := circV_some hok
    have hind : (indepV M l).2 ≠ 0 ∨ (indepV M l).1 = true ∨ ((circV M).2 = 0 ∧ nzc (circV M).1 ≤ n3) := by
      unfold indepV
      split
      · rename_i hp
        cases hd : decide (rankF (colsF M l) l.length = l.length)
        · right; right
          rw [← hn3]
          exact dep_spark hp hd
        · right; left; rfl
      · rename_i hp
        left; exact hp
    obtain ⟨hM, h1, h6, hc1, hc10⟩ := okM_ok hok
    have hcl : (circP M (colsM M)).length ≤ maxLen := by
      rw [← circK_all hM (Nat.le_refl _)]
      have h1 := circK_le M (colsM M) (allS (colsM M)).length
      have h2 := allS_le hc10
      unfold maxLen; omega
    obtain ⟨C, hC⟩ : ∃ C, C = circP M (colsM M) := ⟨_, rfl⟩
    rw [← hC] at HC1 HLAW HSAME hz hcl
    obtain ⟨W, hW⟩ : ∃ W, W = colsM M := ⟨_, rfl⟩
    rw [← hW] at HLAW HSAME HKH hc1 hc10
    obtain ⟨⟨s, g⟩, hsg⟩ : ∃ p, p = circV M := ⟨_, rfl⟩
    rw [← hsg] at HSP hz hind
    obtain ⟨⟨fb, fe⟩, hfe⟩ : ∃ p, p = indepV M l := ⟨_, rfl⟩
    rw [← hfe] at HIN hind
    simp only [] at hz hind
    obtain ⟨N, hN⟩ : ∃ N, N = C.length := ⟨_, rfl⟩
    rw [← hN] at hz hcl
    obtain ⟨Kb, hKb⟩ : ∃ K, K = isKerB M h := ⟨_, rfl⟩
    rw [← hKb] at HK2 HSAME HKH
    obtain ⟨sp, hsp⟩ : ∃ sp, sp = nzc s := ⟨_, rfl⟩
    rw [← hsp] at hind
    have HNC := hid hN
    have HNH := hid hn2
    have HSPE := hid hsp
    have hN1 : N ≤ 9223372036854775807 := by unfold maxLen at hcl; omega
    have hgz : (0 < N ∧ g = 0) ∨ (N = 0 ∧ (g == 0) = false) := by
      by_cases h0 : 0 < N
      · exact .inl ⟨h0, hz.2 h0⟩
      · exact .inr ⟨by omega, by simpa using fun e => h0 (hz.1 e)⟩
    clear hn hn2 hn3 H H2 H3 hok hM h1 h6 hC hW hsg hfe hN hKb hsp hz
    have HGZ := hid hgz
    have HIND := hid hind
    clear hgz hind
    go_enter Try.func6, Try.ntmps6
    go_wp2_with (go_at_call 13; refine HLI.out.mono ?_; rintro e w1 ⟨⟨sb, rfl⟩, rfl⟩; refine Stop.of ?_)
    refine Stop.go ?_
    cases sb
    · go_wp2_with (go_at_call 14; refine (HAW.out _).mono ?_; rintro e w2 ⟨rfl, hb2⟩)
      go_ret
      exact ⟨rfl, hb2⟩
    · go_wp2_with (go_at_call 24; refine HLG.out.mono ?_; rintro e w2 ⟨rfl, hw2⟩; refine Stop.of ?_)
      refine Stop.go ?_
      rw [hw2] at HB1
      clear hw2 HLG HLI
      cases B0
      · go_wp2_with (go_at_call 15; refine (HC1.out _ HB1.out).mono ?_; rintro e w3 ⟨v3, base3, hbs3, hb3, ⟨hx, _⟩ | ⟨_, rfl, hR3⟩⟩; cases hx; refine Stop.of ?_)
        refine Stop.go ?_
        have HB3 := hid (chain HB1.out hb3)
        obtain ⟨va, vc, rfl, _, hRA, _⟩ := hR3.reads
        rw [← HNC.out]
        have HRA := hid hRA
        clear hb3 hbs3 HC1 HB1 hR3 hRA
        go_wp2_with (go_at_call 28; refine (HK2.out _ HB3.out).mono ?_; rintro e w4 ⟨rfl, hb4⟩; refine Stop.of ?_)
        refine Stop.go ?_
        have HB4 := hid (chain HB3.out hb4)
        have HR4 := hid (HRA.out.below hb4)
        clear hb4 HRA HB3
        go_wp2
        go_loopw [43] (fun i wr => ∃ k : Nat, k ≤ N ∧ i = .int .i64 k ∧ Below w4.heap.size w4 wr) (fun i _ => N - (intOf i).toNat)
        case atStart => exact ⟨0, Nat.zero_le _, rfl, Below.refl _ _⟩
        case round =>
          obtain ⟨k, hk, rfl, hbk⟩ := hrel
          by_cases hlt : k < N
          · have hkC : k < C.length := by rw [← HNC.out]; exact hlt
            obtain ⟨b5, off5, ra5, rn5, rc5, rfl, hbs5, hq5, hrn5, hrm5, hri5⟩ := (HR4.out.below hbk) k hkC
            have hlaw := HLAW.out C[k] (List.getElem_mem _)
            obtain ⟨hl1, hl2, hl3, hl4⟩ := hlaw
            clear hl4
            have HSM := hid (HSAME.out C[k])
            have HMEM := hid (show C[k] ∈ C from List.getElem_mem _)
            have HBR := hid (chain HB4.out hbk)
            have HV1 := hid (fun (X : World) (hX : Below wr.heap.size wr X) => HKA.out X (chain HBR.out hX) ra5 rn5 rc5 C[k] hrn5 hrm5 (hri5.below hX))
            have HV2 := hid (fun (X : World) (hX : Below wr.heap.size wr X) => HKB.out X (chain HBR.out hX) ra5 rn5 rc5 C[k] hrn5 hrm5 (hri5.below hX))
            have HV3 := hid (fun (X : World) (hX : Below wr.heap.size wr X) => primitiveB_c X ra5 rn5 rc5 C[k] hrn5 hrm5 (hri5.below hX))
            rw [hl2] at HV1 HV2
            rw [hl3] at HV3
            have hwid : rn5 = W := by omega
            obtain ⟨c, hc⟩ : ∃ c, c = C[k] := ⟨_, rfl⟩
            rw [← hc] at HSM HMEM hri5 hrn5
            have HRI := hid hri5
            have HRN := hid hrn5
            have HBK := hid hbk
            obtain ⟨wo, hwo⟩ : ∃ wo, wo = wr := ⟨_, rfl⟩
            subst hwo
            subst hwid
            clear hl1 hl2 hl3 hc hkC hri5 hrn5 hbk
            go_wp2_with (go_at_call 28; refine (HV1.out _ (Below.refl _ _)).mono ?_; rintro e w6 ⟨rfl, hb6⟩; refine Stop.of ?_)
            refine Stop.go ?_
            go_wp2_with (go_at_call 27; refine (HV2.out _ hb6).mono ?_; rintro e w7 ⟨rfl, hb7⟩; refine Stop.of ?_)
            refine Stop.go ?_
            have hb67 := chain hb6 hb7
            go_wp2_with (go_at_call 29; refine (HV3.out _ hb67).mono ?_; rintro e w8 ⟨rfl, hb8⟩; refine Stop.of ?_)
            refine Stop.go ?_
            have HB8 := hid (chain hb67 hb8)
            clear hb6 hb7 hb67 hb8 HV1 HV2 HV3
            cases Kb
            · have hfin := chain HBK.out HB8.out
              go_wp2
              exact ⟨⟨k + 1, by omega, by go_num, hfin⟩, by simp [intOf]; omega⟩
            · have hn2 := HKH.out rfl
              subst hn2
              have HI8 := hid (HII.out w8 (chain HBR.out HB8.out))
              have HC8 := hid (HRI.out.below HB8.out)
              have HSM2 := hid (fun hw => HSM.out rfl HMEM.out hw)
              have HFIN := hid (chain HBK.out HB8.out)
              go_wp2
              go_loopw [12, 13, 66] (fun u v i wr => ∃ t : Nat, t ≤ n2 ∧ i = .int .i64 t ∧ u = .bool (withB h c t) ∧ v = .bool (sameB h c t) ∧ wr = w8) (fun _ _ i _ => n2 - (intOf i).toNat)
              case atStart => exact ⟨0, Nat.zero_le _, rfl, by simp [withB], by simp [sameB], rfl⟩
              case round =>
                obtain ⟨t, ht, rfl, rfl, rfl, rfl⟩ := hrel
                by_cases hltt : t < n2
                · have hth : t < h.length := by rw [HNH.out]; exact hltt
                  have htc : t < c.length := by rw [HRN.out]; exact hltt
                  obtain ⟨b7, o7, rfl, _, hc7⟩ := HI8.out t hth
                  obtain ⟨b8, o8, rfl, _, hc8⟩ := HC8.out t htc
                  have hws := withB_succ h c t
                  have hss := sameB_succ h c t
                  have hxv : h[t]?.getD 0 = vec h t := rfl
                  have hyv : c[t]?.getD 0 = vec c t := rfl
                  rw [hxv] at hc7
                  rw [hyv] at hc8
                  obtain ⟨x, hx⟩ : ∃ x, x = vec h t := ⟨_, rfl⟩
                  obtain ⟨y, hy⟩ : ∃ x, x = vec c t := ⟨_, rfl⟩
                  rw [← hx] at hc7 hws hss
                  rw [← hy] at hc8 hws hss
                  obtain ⟨wb, hwb⟩ : ∃ b, b = withB h c t := ⟨_, rfl⟩
                  obtain ⟨sb, hsb⟩ : ∃ b, b = sameB h c t := ⟨_, rfl⟩
                  rw [← hwb] at hws ⊢
                  rw [← hsb] at hss ⊢
                  have HWS := hid hws
                  have HSS := hid hss
                  have i1 : (0 : Int) ≤ (t : Int) := by omega
                  have i2 : (t : Int) < (n2 : Int) := by omega
                  clear hxv hyv hx hy hwb hsb hws hss hth htc
                  by_cases hx0 : x = 0
                  · subst hx0
                    by_cases hy0 : y = 0
                    · subst hy0
                      have E1 := hid (show withB h c (t + 1) = wb by rw [HWS.out]; simp)
                      have E2 := hid (show sameB h c (t + 1) = sb by rw [HSS.out]; simp)
                      clear HWS HSS
                      cases wb <;> cases sb
                      all_goals
                        go_wp2
                        exact ⟨⟨t + 1, by omega, by go_num, by rw [E1.out], by rw [E2.out], by first | trivial | rfl⟩, by simp [intOf]; omega⟩
                    · have hyb : (y == 0) = false := by simpa using hy0
                      have E1 := hid (show withB h c (t + 1) = wb by rw [HWS.out]; simp)
                      have E2 := hid (show sameB h c (t + 1) = false by rw [HSS.out]; simp [hy0])
                      clear HWS HSS
                      cases wb <;> cases sb
                      all_goals
                        go_wp2
                        exact ⟨⟨t + 1, by omega, by go_num, by rw [E1.out], by rw [E2.out], by first | trivial | rfl⟩, by simp [intOf]; omega⟩
                  · have hxb : (x == 0) = false := by simpa using hx0
                    by_cases hy0 : y = 0
                    · subst hy0
                      have E1 := hid (show withB h c (t + 1) = false by rw [HWS.out]; simp [hx0])
                      have E2 := hid (show sameB h c (t + 1) = false by rw [HSS.out]; simp [hx0])
                      clear HWS HSS
                      cases wb <;> cases sb
                      all_goals
                        go_wp2
                        exact ⟨⟨t + 1, by omega, by go_num, by rw [E1.out], by rw [E2.out], by first | trivial | rfl⟩, by simp [intOf]; omega⟩
                    · have hyb : (y == 0) = false := by simpa using hy0
                      have hyb2 : (y != 0) = true := by simpa using hy0
                      have E1 := hid (show withB h c (t + 1) = wb by rw [HWS.out]; simp [hy0])
                      have E2 := hid (show sameB h c (t + 1) = sb by rw [HSS.out]; simp [hx0, hy0])
                      clear HWS HSS
                      cases wb <;> cases sb
                      all_goals
                        go_wp2
                        exact ⟨⟨t + 1, by omega, by go_num, by rw [E1.out], by rw [E2.out], by first | trivial | rfl⟩, by simp [intOf]; omega⟩
                · obtain rfl : n2 = t := by omega
                  have hws := HSM2.out
                  obtain ⟨wb, hwb⟩ : ∃ b, b = withB h c n2 := ⟨_, rfl⟩
                  obtain ⟨sb, hsb⟩ : ∃ b, b = sameB h c n2 := ⟨_, rfl⟩
                  rw [← hwb, ← hsb] at hws ⊢
                  clear hwb hsb
                  cases wb
                  · clear hws
                    go_wp2
                    exact ⟨⟨k + 1, by omega, by go_num, HFIN.out⟩, by simp [intOf]; omega⟩
                  · obtain rfl : sb = true := hws rfl
                    clear hws
                    go_wp2
                    exact ⟨⟨k + 1, by omega, by go_num, HFIN.out⟩, by simp [intOf]; omega⟩
          · obtain rfl : N = k := by omega
            have HBR := hid (chain HB4.out hbk)
            clear hbk
            go_wp2_with (go_at_call 34; refine (HIN.out _ HBR.out).mono ?_; rintro e w6 ⟨rfl, hb6⟩; refine Stop.of ?_)
            refine Stop.go ?_
            have HB6 := hid (chain HBR.out hb6)
            go_wp2_with (go_at_call 17; refine (HSP.out _ HB6.out).mono ?_; rintro e w7 ⟨hb7, rfl⟩; refine Stop.of ?_)
            refine Stop.go ?_
            have HB7 := hid (chain HB6.out hb7)
            have hind := HIND.out
            rw [← HSPE.out]
            clear hb6 hb7 HIND
            rcases HGZ.out with ⟨hN0, rfl⟩ | ⟨rfl, hgb⟩
            · have hNi : (0 : Int) < (N : Int) := by omega
              by_cases hfe : fe = 0
              · subst hfe
                cases fb
                · have hle : sp ≤ n3 := by
                    rcases hind with h | h | h
                    · exact absurd rfl h
                    · cases h
                    · exact h.2
                  have hlei : (sp : Int) ≤ (n3 : Int) := by omega
                  clear hind
                  go_wp2_with (go_at_call 14; refine (HAW.out _).mono ?_; rintro e w8 ⟨rfl, hb8⟩)
                  go_ret
                  exact ⟨rfl, chain HB7.out hb8⟩
                · clear hind
                  go_wp2_with (go_at_call 14; refine (HAW.out _).mono ?_; rintro e w8 ⟨rfl, hb8⟩)
                  go_ret
                  exact ⟨rfl, chain HB7.out hb8⟩
              · have hfb : (fe != 0) = true := by simpa using hfe
                clear hind
                go_wp2_with (go_at_call 14; refine (HAW.out _).mono ?_; rintro e w8 ⟨rfl, hb8⟩)
                go_ret
                exact ⟨rfl, chain HB7.out hb8⟩
            · by_cases hfe : fe = 0
              · subst hfe
                obtain rfl : fb = true := by
                  rcases hind with h | h | h
                  · exact absurd rfl h
                  · exact h
                  · have := h.1; subst this; simp at hgb
                clear hind
                go_wp2_with (go_at_call 14; refine (HAW.out _).mono ?_; rintro e w8 ⟨rfl, hb8⟩)
                go_ret
                exact ⟨rfl, chain HB7.out hb8⟩
              · have hfb : (fe != 0) = true := by simpa using hfe
                clear hind
                go_wp2_with (go_at_call 14; refine (HAW.out _).mono ?_; rintro e w8 ⟨rfl, hb8⟩)
                go_ret
                exact ⟨rfl, chain HB7.out hb8⟩
      · go_wp2_with (go_at_call 14; refine (HAW.out _).mono ?_; rintro e w3 ⟨rfl, hb3⟩)
        go_ret
        exact ⟨rfl, chain HB1.out hb3⟩
end Go.Proofs.Ytfipebkhomppmaa

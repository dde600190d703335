/- Walks of reference 03: Circuits. -/
import Derived.Test.YtfipebkhomppmaaLwAE
import Derived.Test.YtfipebkhomppmaaLwZ
import Derived.Test.YtfipebkhomppmaaLwR
import Derived.Deep.CutRange
namespace Go.Proofs.Ytfipebkhomppmaa
open Go.RowKit
set_option linter.unusedVariables false

/-- a set's circuit, as the reference's loop finds it -/
def circ0 (M : List (List Int)) (n : Nat) (S : List Int) : Option (List Int) := if S.length = 0 ∨ M.length + 1 < S.length then none else circ1R M n S
theorem kerSR_eq {M : List (List Int)} {n : Nat} (h : MaskOk M n) (S : List Int) : kerSR M S = kerSP M S := by
  have hc := h.cols S
  exact (kernel_same hc.wid hc.le6 (fun r hr c _ => hc.one r hr c)).symm
theorem circ0_skip {M : List (List Int)} {n : Nat} {S : List Int} (h : S.length = 0 ∨ M.length + 1 < S.length) : circ0 M n S = none := if_pos h
theorem circ0_no {M : List (List Int)} {n : Nat} {S : List Int} (hM : MaskOk M n) (h : (kerSP M S).length ≠ 1) : circ0 M n S = none := by
  unfold circ0
  split
  · rfl
  · unfold circ1R
    rw [kerSR_eq hM]
    match kerSP M S, h with
    | [], _ => rfl
    | [l], h => simp at h
    | _ :: _ :: _, _ => rfl
theorem circ0_zero {M : List (List Int)} {n : Nat} {S l : List Int} (hM : MaskOk M n) (h : kerSP M S = [l]) (h0 : l.contains 0 = true) : circ0 M n S = none := by
  unfold circ0
  split
  · rfl
  · unfold circ1R; rw [kerSR_eq hM, h]; simp only [h0]; rfl
theorem circ0_yes {M : List (List Int)} {n : Nat} {S l : List Int} (hM : MaskOk M n) (hs : ¬ (S.length = 0 ∨ M.length + 1 < S.length)) (h : kerSP M S = [l]) (h0 : l.contains 0 = false) :
    circ0 M n S = some (if vec (spreadF n S l S.length) (S[0]?.getD 0).toNat < 0 then negF (spreadF n S l S.length) else spreadF n S l S.length) := by
  unfold circ0
  rw [if_neg hs]
  unfold circ1R; rw [kerSR_eq hM, h]; simp only [h0]; rfl
/-- the circuits of the first sets -/
def circK (M : List (List Int)) (n k : Nat) : List (List Int) := ((allS n).take k).filterMap (circ0 M n)
theorem circK_succ {M : List (List Int)} {n k : Nat} (hk : k < (allS n).length) : circK M n (k + 1) = circK M n k ++ (circ0 M n (allS n)[k]).toList := by
  unfold circK
  rw [List.take_succ_eq_append_getElem hk, filterMap_snoc]
theorem circK_le (M : List (List Int)) (n k : Nat) : (circK M n k).length ≤ (allS n).length := by
  unfold circK
  exact Nat.le_trans (List.length_filterMap_le _ _) (by rw [List.length_take]; exact Nat.min_le_right _ _)
theorem circK_all {M : List (List Int)} {n k : Nat} (hM : MaskOk M n) (h : (allS n).length ≤ k) : circK M n k = circP M n := by
  unfold circK
  rw [List.take_of_length_le h, circ_same hM]
  rfl
theorem zero_take {l : List Int} {t : Nat} (ht : t < l.length) : (!(l.take (t + 1)).contains 0) = ((!(l.take t).contains 0) && decide (l[t]?.getD 0 ≠ 0)) := by
  rw [List.take_succ_eq_append_getElem ht, List.getElem?_eq_getElem ht, Option.getD_some]
  have e : ∀ (l : List Int) (y : Int), (l ++ [y]).contains 0 = (l.contains 0 || decide (y = 0)) := by
    intro l y
    rw [Bool.eq_iff_iff]
    simp only [List.contains_iff_mem, List.mem_append, List.mem_singleton, Bool.or_eq_true, decide_eq_true_eq]
    constructor <;> rintro (h | h) <;> first | exact .inl h | exact .inr h.symm
  rw [e, Bool.not_or]
  congr 1
  by_cases h : l[t] = 0 <;> simp [h]
theorem sp_made (w : World) (k : Nat) : SpRow (w.alloc (.cells (madeCells #[.int .i64 0] k) 3)) w.heap.size (List.replicate k 0) := by
  have e : madeCells #[Value.int .i64 0] k = ((List.replicate k (0 : Int)).map (Value.int .i64)).toArray := by
    apply Array.toList_inj.1
    rw [toList_madeCells_one]; simp
  exact ⟨[], by rw [World.alloc_heap_new, e, List.append_nil]⟩

set_option maxRecDepth 100000 in
set_option maxHeartbeats 8000000 in
theorem r3Circuits_c (w : World) (a : Option Addr) (n cap : Nat) (M : Mask) (hn : M.length = n) (hm : n ≤ maxLen) (H : RowsAt w a M) :
    Calls Try.prog 16 #[.slice a n cap] w fun e w' => ∃ v base, w.heap.size ≤ base ∧ Below w.heap.size w w' ∧
      ((okM M = false ∧ e = .returned (.tuple #[.slice none 0 0, .int .i64 1])) ∨ (okM M = true ∧ e = .returned (.tuple #[v, .int .i64 0]) ∧ TabS w' base v (circP M (colsM M)))) := by
  have HV := hid (r2Valid_c w a n cap M hn hm H)
  cases hok : okM M
  · rw [hok] at HV
    clear hn H
    go_enter Try.func16, Try.ntmps16
    go_wp2_with (go_at_call 64; refine HV.out.mono ?_; rintro e w1 ⟨rfl, rfl⟩)
    go_ret2
    exact ⟨.slice none 0 0, w.heap.size, Nat.le_refl _, Below.refl _ _, .inl ⟨by first | trivial | rfl, rfl⟩⟩
  · rw [hok] at HV
    obtain ⟨hM, h1, h6, hc1, hc10⟩ := okM_ok hok
    obtain ⟨b, off, ra, rc, rfl, hb, hc⟩ := rows_head H (by omega)
    have HMN := hid hn
    obtain ⟨W, hW⟩ : ∃ W, W = colsM M := ⟨_, rfl⟩
    rw [← hW] at hc hc1 hc10 hM ⊢
    have HALL := hid (fun k (h : (allS W).length ≤ k) => circK_all hM h)
    have HCC := hid (fun (X : World) (hX : Below w.heap.size w X) => show X.cell? ⟨b, off, none⟩ = some (.slice ra W rc) from (hX.cell (p := ⟨b, off, none⟩) hb).trans hc)
    have HCOL := hid (fun (X : World) (hX : Below w.heap.size w X) (x : List Int) (a2 : Option Addr) (k2 cap2 : Nat) (hk : x.length = k2) (hk2 : k2 ≤ 1000) (hx : IntsAt X a2 x) (hS : ∀ j ∈ x, 0 ≤ j ∧ j < (W : Int)) =>
      r3columns_c X (some ⟨b, off, none⟩) n cap M hn (by omega) (H.below hX) a2 k2 cap2 x hk hk2 hx (fun r hr j hj => by rw [hM.wid r hr]; exact hS j hj))
    have HKER := hid (fun (X : World) (x : List Int) (a3 : Option Addr) (c3 : Nat) (h0 : 1 ≤ x.length) (h10 : x.length ≤ 1000) (hR : RowsAt X a3 (colsF M x)) =>
      r3kernel_c X a3 n c3 (colsF M x) (by rw [colsF_len]; exact hn) (by omega) x.length h0 h10 (hM.cols x) hR)
    have HKF := hid (fun (x : List Int) (l : List Int) (hl : l ∈ kerSP M x) => kerSP_facts hM hl)
    have HSK := hid (fun (x : List Int) (h : x.length = 0 ∨ n + 1 < x.length) => circ0_skip (M := M) (n := W) (S := x) (by rw [hn]; exact h))
    have HNO := hid (fun (x : List Int) (h : (kerSP M x).length ≠ 1) => circ0_no (S := x) hM h)
    have HZE := hid (fun (x l : List Int) (h : kerSP M x = [l]) (h0 : l.contains 0 = true) => circ0_zero hM h h0)
    have HYE := hid (fun (x l : List Int) (hs : ¬ (x.length = 0 ∨ n + 1 < x.length)) (h : kerSP M x = [l]) (h0 : l.contains 0 = false) => circ0_yes hM (by rw [hn]; exact hs) h h0)
    have HSU := hid (fun (k : Nat) (hk : k < (allS W).length) => circK_succ (M := M) hk)
    have HLE := hid (fun (k : Nat) => circK_le M W k)
    have HAOK := hid (fun (x : List Int) (hx : x ∈ allS W) => allS_ok hx)
    have HA20 := hid (allS_le hc10)
    have hn6 : n ≤ 6 := by omega
    have hn1 : 1 ≤ n := by omega
    have hni : (0 : Int) < (n : Int) := by omega
    obtain ⟨A, hA⟩ : ∃ A, A = allS W := ⟨_, rfl⟩
    have HSETS := hid (fun (X : World) => r3sets_c X W hc10)
    rw [← hA] at HALL HSU HLE HAOK HA20 HSETS
    obtain ⟨N, hN⟩ : ∃ N, N = A.length := ⟨_, rfl⟩
    rw [← hN] at HALL HLE HA20
    have HN := hid hN
    have hN20 := HA20.out
    have hcw := HCC.out w (Below.refl _ _)
    clear hn H hok hc hM hW hA hN h1 h6 hb
    go_enter Try.func16, Try.ntmps16
    go_wp2_with (go_at_call 64; refine HV.out.mono ?_; rintro e w1 ⟨rfl, rfl⟩; refine Stop.of ?_)
    refine Stop.go ?_
    go_wp2_with (go_at_call 65; refine (HSETS.out w).mono ?_; rintro e w2 ⟨vS, rfl, hTS, hb2⟩; refine Stop.of ?_)
    refine Stop.go ?_
    obtain ⟨sa, sc, rfl⟩ : ∃ a c, vS = .slice a N c := by
      obtain ⟨_, ho1, _⟩ := hTS
      obtain ⟨a', c', e⟩ := ownsRow_slice ho1
      exact ⟨a', c', by rw [e, HN.out]⟩
    have hRS := hTS.rows HN.out.symm (fun r hr => by have := (HAOK.out r hr).1; unfold maxLen; omega)
    have HRS := hid hRS
    have HB2 := hid hb2
    clear hTS hRS hb2 HSETS HV
    go_wp2
    go_loopw [4, 21] (fun v i wr => ∃ k : Nat, k ≤ N ∧ i = .int .i64 k ∧ TabS wr w2.heap.size v (circK M W k) ∧ Below w2.heap.size w2 wr) (fun _ i _ => N - (intOf i).toNat)
    case atStart => exact ⟨0, Nat.zero_le _, rfl, TabS.nil _ _, Below.refl _ _⟩
    case round =>
      obtain ⟨k, hk, rfl, ho, hbk⟩ := hrel
      obtain ⟨wo, hwo⟩ : ∃ wo, wo = wr := ⟨_, rfl⟩
      subst hwo
      by_cases hlt : k < N
      · have hkA : k < A.length := by rw [← HN.out]; exact hlt
        obtain ⟨bs, os, xa, xn, xc, rfl, hbs, hq0, hxn, hxm, hxi⟩ := (HRS.out.below hbk) k hkA
        have hsu := HSU.out k hkA
        have haok := HAOK.out A[k] (List.getElem_mem _)
        obtain ⟨x, hx⟩ : ∃ x, x = A[k] := ⟨_, rfl⟩
        rw [← hx] at hsu haok hxn hxi
        obtain ⟨hxW, hxo⟩ := haok
        have hxr : ∀ j ∈ x, 0 ≤ j ∧ j < (W : Int) := fun j hj => hxo.2 j hj
        have hle := HLE.out k
        obtain ⟨T, hT⟩ : ∃ T, T = circK M W k := ⟨_, rfl⟩
        rw [← hT] at hsu hle ho
        obtain ⟨tl, htl⟩ : ∃ tl, tl = T.length := ⟨_, rfl⟩
        rw [← htl] at hle
        obtain ⟨va, vc, rfl⟩ : ∃ la lc, u4 = .slice la tl lc := by
          obtain ⟨_, ho1, _⟩ := ho
          obtain ⟨a', c', e⟩ := ownsRow_slice ho1
          exact ⟨a', c', by rw [e, htl]⟩
        have HSUX := hid hsu
        have HXI := hid hxi
        have HXN := hid hxn
        have HXR := hid hxr
        have HXO := hid hxo
        have HO := hid ho
        have HBK := hid hbk
        have HTL := hid htl
        have hxn10 : xn ≤ 10 := by omega
        have hcwo := HCC.out wo (chain HB2.out hbk)
        have hxp : ∀ (X : World), Below wo.heap.size wo X → circ0 M W x = none → TabS X w2.heap.size (.slice va tl vc) (circK M W (k + 1)) ∧ Below w2.heap.size w2 X := fun X hX e => by
          rw [HSUX.out, e]
          simp only [Option.toList_none, List.append_nil]
          exact ⟨HO.out.below hX, chain HBK.out hX⟩
        have HXP := hid hxp
        clear hx hkA hsu hxW hxo hxr hT htl ho hbk hxi hxm hxn hxp
        have hki : (k : Int) < (N : Int) := by omega
        by_cases hskip : xn = 0 ∨ n + 1 < xn
        · have hno := HSK.out x (by rw [HXN.out]; exact hskip)
          obtain ⟨q1, q2⟩ := HXP.out wo (Below.refl _ _) hno
          have Q1 := hid q1
          have Q2 := hid q2
          clear q1 q2 hno
          rcases hskip with rfl | hsk
          · go_wp2
            exact ⟨⟨k + 1, by omega, by go_num, Q1.out, Q2.out⟩, by simp [intOf]; omega⟩
          · have hx0 : ((xn : Int) == 0) = false := by simp; omega
            have hsk2 : (n : Int) + 1 < (xn : Int) := by omega
            go_wp2
            exact ⟨⟨k + 1, by omega, by go_num, Q1.out, Q2.out⟩, by simp [intOf]; omega⟩
        · have HSKIP := hid hskip
          have hx1 : 1 ≤ xn := by omega
          have hx0 : ((xn : Int) == 0) = false := by simp; omega
          have hsk2 : ¬ (n : Int) + 1 < (xn : Int) := by omega
          have HC1 := hid (HCOL.out wo (chain HB2.out HBK.out) x xa xn xc HXN.out (by omega) HXI.out HXR.out)
          clear hskip
          go_wp2_with (go_at_call 67; refine HC1.out.mono ?_; rintro e w3 ⟨v3, rfl, hT3, hb3⟩; refine Stop.of ?_)
          refine Stop.go ?_
          obtain ⟨ca, cc, rfl⟩ : ∃ a c, v3 = .slice a n c := by
            obtain ⟨_, ho1, _⟩ := hT3
            obtain ⟨a', c', e⟩ := ownsRow_slice ho1
            exact ⟨a', c', by rw [e, colsF_len]; exact congrArg (fun z => Value.slice a' z c') HMN.out⟩
          have hkeq : kerSP M x = kernP (RP (colsF M x) x.length) (JP (colsF M x) x.length) x.length := rfl
          have hR3 := hT3.rows (by rw [colsF_len]; exact HMN.out) (fun r hr => by rw [colsF_wid M x r hr, HXN.out]; unfold maxLen; omega)
          have HK1 := hid (HKER.out w3 x ca cc (by rw [HXN.out]; exact hx1) (by rw [HXN.out]; omega) hR3)
          rw [← hkeq] at HK1
          have HB3 := hid hb3
          clear hT3 hR3 hb3 hkeq HC1
          have hKF := HKF.out x
          have hNO := HNO.out x
          have hZE := HZE.out x
          have hYE := fun l => HYE.out x l (by rw [HXN.out]; exact HSKIP.out)
          obtain ⟨K, hK⟩ : ∃ K, K = kerSP M x := ⟨_, rfl⟩
          rw [← hK] at HK1 hKF hNO hZE hYE
          have HKFX := hid hKF
          have HNOX := hid hNO
          have HZEX := hid hZE
          have HYEX := hid hYE
          clear hK hKF hNO hZE hYE
          go_wp2_with (go_at_call 66; refine HK1.out.mono ?_; rintro e w4 ⟨v4, base4, rfl, hbs4, hT4, hb4⟩; refine Stop.of ?_)
          refine Stop.go ?_
          have HB4 := hid (chain HB3.out hb4)
          clear HK1 HB3 hb4 hbs4
          obtain ⟨kl, hkl⟩ : ∃ kl, kl = K.length := ⟨_, rfl⟩
          obtain ⟨ka, kc, rfl⟩ : ∃ a c, v4 = .slice a kl c := by
            obtain ⟨_, ho1, _⟩ := hT4
            obtain ⟨a', c', e⟩ := ownsRow_slice ho1
            exact ⟨a', c', by rw [e, hkl]⟩
          by_cases hk1 : kl = 1
          · subst hk1
            obtain ⟨l, rfl⟩ := List.length_eq_one_iff.1 hkl.symm
            obtain ⟨hll, hlb⟩ := HKFX.out l (by simp)
            rw [HXN.out] at hll
            have hR4 := hT4.rows rfl (fun r hr => by rw [List.mem_singleton.1 hr, hll]; unfold maxLen; omega)
            obtain ⟨kb, ko, la, ln, lc, rfl, hkb, hkc, hln, hlm, hli⟩ := hR4 0 (by simp)
            simp only [List.getElem_cons_zero, Nat.add_zero] at hkc hln hli
            obtain rfl : ln = xn := by omega
            have HLI := hid hli
            have HLL := hid hll
            have HLB := hid hlb
            have hcw4 := HCC.out w4 (chain HB2.out (chain HBK.out HB4.out))
            have HXI4 := hid (HXI.out.below HB4.out)
            clear hT4 hR4 hkl hll hlb hln hlm hli hcwo
            have hmk : ∀ w, (Instr.makeSlice 31 (.int .i64 (W : Int)) (.int .i64 (W : Int))).run Try.prog w = .ok (.slice (some ⟨w.heap.size, 0, none⟩) W W) (w.alloc (.cells (madeCells #[.int .i64 0] W) 3)) :=
              fun w => run_make_row' 31 3 (.int .i64 0) 8 Try.underlying31 li_int rfl .i64 .i64 W (by omega) (by omega) w
            obtain ⟨w7, hw7⟩ : ∃ w7, w7 = w4.alloc (.cells (madeCells #[.int .i64 0] W) 3) := ⟨_, rfl⟩
            have hr7 : SpRow w7 w4.heap.size (List.replicate W 0) := by rw [hw7]; exact sp_made w4 W
            have hb7 : Below w4.heap.size w4 w7 := by rw [hw7]; exact (Below.refl _ _).alloc (Nat.le_refl _) _
            have hs7 : w7.heap.size = w4.heap.size + 1 := by rw [hw7]; simp
            have HR7 := hid hr7
            have HB7 := hid hb7
            have HW7 := hid hw7
            clear hr7 hb7 hw7
            go_wp2
            rw [← HW7.out]
            clear hmk
            go_loopw [9, 50] (fun v i wr => ∃ t : Nat, t ≤ ln ∧ i = .int .i64 t ∧ v = .bool (!(l.take t).contains 0) ∧ SpRow wr w4.heap.size (spreadF W x l t) ∧ Keep (fun q => q ≠ w4.heap.size) w7 wr) (fun _ i _ => ln - (intOf i).toNat)
            case atStart => exact ⟨0, Nat.zero_le _, rfl, rfl, HR7.out, Keep.refl _ _⟩
            case round =>
              obtain ⟨t, ht, rfl, rfl, hr, hkp⟩ := hrel
              have hb47 : Below w4.heap.size w4 wr := hkp.below HB7.out (by omega) (fun q hq => by omega)
              have hlenF : (spreadF W x l t).length = W := spreadF_len _ _ _ _
              have hkcr : wr.cell? ⟨kb, ko, none⟩ = some (.slice la ln lc) := (hb47.cell (p := ⟨kb, ko, none⟩) hkb).trans hkc
              have hkne : kb ≠ w4.heap.size := by omega
              by_cases hlq : t < ln
              · have htx : t < x.length := by rw [HXN.out]; exact hlq
                have htl2 : t < l.length := by rw [HLL.out]; exact hlq
                obtain ⟨b7, o7, rfl, hb7, hc7⟩ := HXI4.out t htx
                obtain ⟨b8, o8, rfl, hb8, hc8⟩ := HLI.out t htl2
                have hc7r : wr.cell? ⟨b7, o7 + t, none⟩ = some (.int .i64 (x[t]?.getD 0)) := (hb47.cell (p := ⟨b7, o7 + t, none⟩) hb7).trans hc7
                have hc8r : wr.cell? ⟨b8, o8 + t, none⟩ = some (.int .i64 (l[t]?.getD 0)) := (hb47.cell (p := ⟨b8, o8 + t, none⟩) hb8).trans hc8
                have h8ne : b8 ≠ w4.heap.size := by omega
                have hpb := HXO.out.get htx
                have hsn := spreadF_succ W x l t
                have hzt := zero_take htl2
                have hxq : x[t]?.getD 0 = x[t] := by rw [List.getElem?_eq_getElem htx]; rfl
                rw [hxq] at hc7r hsn
                obtain ⟨p, hp⟩ : ∃ p : Nat, x[t] = (p : Int) := ⟨(x[t]).toNat, by omega⟩
                rw [hp] at hc7r hpb hsn
                rw [Int.toNat_natCast] at hsn
                obtain ⟨hp0, hpW⟩ := hpb
                obtain ⟨z, hz⟩ : ∃ z, z = l[t]?.getD 0 := ⟨_, rfl⟩
                rw [← hz] at hc8r hsn hzt
                have hpW' : p < W := by omega
                have hoc := hr.cell (j := p) (by rw [hlenF]; exact hpW')
                obtain ⟨y, hy⟩ : ∃ y, y = (spreadF W x l t)[p]?.getD 0 := ⟨_, rfl⟩
                rw [← hy] at hoc
                have hof := hr.frozen p
                have hlt3 := hr.lt
                have HSET := hid (hr.set p (by rw [hlenF]; exact hpW') z)
                rw [← hsn] at HSET
                have HKP := hid (hkp.trans (Keep.set wr w4.heap.size p (.int .i64 z)))
                have HZT := hid hzt
                have i1 : (0 : Int) ≤ (t : Int) := by omega
                have i2 : (t : Int) < (ln : Int) := by omega
                obtain ⟨fr, hfr⟩ : ∃ fr, fr = !(l.take t).contains 0 := ⟨_, rfl⟩
                rw [← hfr] at HZT ⊢
                clear hxq hp hz hy hsn hzt hfr htx htl2 hlenF hr hkp hb47 hc7 hc8 hb7 hb8
                cases fr
                · go_wp2
                  exact ⟨⟨t + 1, hlq, by go_num, by rw [HZT.out]; rfl, HSET.out, HKP.out⟩, by simp [intOf]; omega⟩
                · by_cases hz0 : z = 0
                  · subst hz0
                    go_wp2
                    exact ⟨⟨t + 1, hlq, by go_num, by rw [HZT.out]; rfl, HSET.out, HKP.out⟩, by simp [intOf]; omega⟩
                  · have hzb : (z != 0) = true := by simpa using hz0
                    have HZB := hid (show (true && decide (z ≠ 0)) = true by simpa using hz0)
                    clear hz0
                    go_wp2
                    exact ⟨⟨t + 1, hlq, by go_num, by rw [HZT.out, HZB.out], HSET.out, HKP.out⟩, by simp [intOf]; omega⟩
              · obtain rfl : ln = t := by omega
                have e : l.take ln = l := List.take_of_length_le (by rw [HLL.out]; exact Nat.le_refl _)
                rw [e]
                cases h0 : l.contains 0
                · have HSOME := hid (HYEX.out l rfl h0)
                  rw [show (!false) = true from rfl]
                  have hx0l : 0 < x.length := by rw [HXN.out]; exact hx1
                  obtain ⟨b7, o7, rfl, hb7, hc7⟩ := HXI4.out 0 hx0l
                  have hc7r : wr.cell? ⟨b7, o7, none⟩ = some (.int .i64 (x[0]?.getD 0)) := (hb47.cell (p := ⟨b7, o7 + 0, none⟩) hb7).trans hc7
                  have hpb := HXO.out.get hx0l
                  have hxq : x[0]?.getD 0 = x[0] := by rw [List.getElem?_eq_getElem hx0l]; rfl
                  have hso := HSOME.out
                  rw [hxq] at hc7r hso
                  obtain ⟨p, hp⟩ : ∃ p : Nat, x[0] = (p : Int) := ⟨(x[0]).toNat, by omega⟩
                  rw [hp] at hc7r hpb hso
                  rw [Int.toNat_natCast, HXN.out] at hso
                  obtain ⟨hp0, hpW⟩ := hpb
                  have hpW' : p < W := by omega
                  have hoc := hr.cell (j := p) (by rw [hlenF]; exact hpW')
                  have hov : (spreadF W x l ln)[p]?.getD 0 = vec (spreadF W x l ln) p := rfl
                  rw [hov] at hoc
                  have hsb : ∀ y ∈ spreadF W x l ln, -518400 ≤ y ∧ y ≤ 518400 := fun y hy => spread_all (P := fun z => -518400 ≤ z ∧ z ≤ 518400) (by decide) HLB.out ln y hy
                  obtain ⟨Sp, hSp⟩ : ∃ Sp, Sp = spreadF W x l ln := ⟨_, rfl⟩
                  rw [← hSp] at hoc hso hlenF hr hsb
                  have HSC := hid (r3scaled_c wr (some ⟨w4.heap.size, 0, none⟩) W W Sp hlenF (by omega) hr.ints (fun y hy => by have := hsb y hy; omega))
                  have hrs : RowS wr (.slice (some ⟨w4.heap.size, 0, none⟩) W W) Sp := .inl ⟨w4.heap.size, W, by rw [hlenF], hr⟩
                  obtain ⟨z, hz⟩ : ∃ z, z = vec Sp p := ⟨_, rfl⟩
                  rw [← hz] at hoc hso
                  obtain ⟨R, hR⟩ : ∃ R, R = (if z < 0 then negF Sp else Sp) := ⟨_, rfl⟩
                  rw [← hR] at hso
                  have hRl : R.length = W := by rw [hR]; split <;> simp [negF, hlenF]
                  have HR1 := hid (fun (h : z < 0) => show R = negF Sp by rw [hR, if_pos h])
                  have HR2 := hid (fun (h : ¬ z < 0) => show R = Sp by rw [hR, if_neg h])
                  have HSO := hid hso
                  have HRS2 := hid hrs
                  have HB47 := hid hb47
                  have HRL := hid hRl
                  have HNL := hid (show (negF Sp).length = W by unfold negF; rw [List.length_map]; exact hlenF)
                  have hpi : (p : Int) < (W : Int) := by omega
                  have hpi0 : (0 : Int) ≤ (p : Int) := by omega
                  have hl0 : (0 : Int) < (ln : Int) := by omega
                  clear e h0 HSOME hb7 hc7 hxq hso hp hsb hSp hrs hz hR hRl hlenF hr hkp hb47 hx0l hov hlq ht
                  obtain ⟨wz, hwz⟩ : ∃ wz, wz = wr := ⟨_, rfl⟩
                  subst hwz
                  go_upto_if 83 with fail
                  go_cut [8] from 22 to 90 (fun v wx => RowS wx v R ∧ Below wz.heap.size wz wx)
                  case first =>
                    by_cases hz0 : z < 0
                    · have HE := hid (HR1.out hz0)
                      go_wp2_with (go_at_call 68; refine HSC.out.mono ?_; rintro e w9 ⟨v9, rfl, ho9, hb9⟩)
                      go_meet
                      case rel =>
                        refine ⟨?_, hb9⟩
                        rw [HE.out]
                        exact rowS_own ho9 HNL.out
                    · have HE := hid (HR2.out hz0)
                      go_wp2
                      go_meet
                      case rel =>
                        refine ⟨?_, Below.refl _ _⟩
                        rw [HE.out]
                        exact HRS2.out
                  case rest =>
                    obtain ⟨hrow, hbc⟩ := hcut
                    obtain ⟨ua, uc, hu⟩ := hrow.slice
                    rw [HRL.out] at hu
                    subst hu
                    have hboc : Below wo.heap.size wo wc := chain (chain HB4.out HB47.out) hbc
                    have hb2a : Below wo.heap.size wo (wc.alloc (.cells #[.slice ua W uc] 31)) := hboc.alloc hboc.size _
                    obtain ⟨vs, hv1, hv2⟩ := HO.out.below hb2a
                    have hv1' := hv1
                    rw [← HTL.out] at hv1'
                    have M1 := hid (show tl + 1 ≤ maxLen by unfold maxLen; omega)
                    have M2 := hid (show (tl + 1) * 24 ≤ 140737488355328 by omega)
                    have M3 := hid (chain HBK.out hb2a).size
                    have HV1 := hid hv1
                    have HV1' := hid hv1'
                    have HV2 := hid hv2
                    have HRW := hid (hrow.below ((Below.refl _ wc).alloc (Nat.le_refl _) (.cells #[.slice ua W uc] 31)))
                    have HBF := hid (chain HBK.out hb2a)
                    clear hrow hbc hboc hb2a hv1 hv1' hv2
                    go_wp2_with (at_builtin; refine wpList_app _ rfl (.tmp 86) (.tmp 88) 22 rfl w2.heap.size 31 (.slice none 0 0) 1 24 Try.underlying22 li_ints rfl Nat.one_pos (.slice va tl vc) tl vs rfl HV1'.out (some ⟨wc.heap.size, 0, none⟩) 1 1 [.slice ua W uc] rfl rfl no_none (one_news wc _ _) (slice_oneCell _ _ _) M1.out M2.out M3.out ?_; refine Stop.of ?_)
                    refine Stop.go ?_
                    intro a5 c5 w5 own5 g5
                    have hsn5 : TabS w5 w2.heap.size (.slice a5 (tl + 1) c5) (T ++ [R]) := TabS.snoc HV1.out HV2.out (Below.refl _ _) HRW.out g5 (by rw [← HTL.out]; exact own5)
                    have hB5 : Below w2.heap.size w2 w5 := HBF.out.grown g5 M3.out fun q hq => (own_type HV1'.out hq).1
                    have hfin : circK M W (k + 1) = T ++ [R] := by rw [HSUX.out, HSO.out]; rfl
                    rw [← hfin] at hsn5
                    have HSN5 := hid hsn5
                    have HBN5 := hid hB5
                    clear hsn5 hB5 hfin own5 g5
                    go_wp2
                    exact ⟨⟨k + 1, by omega, by go_num, HSN5.out, HBN5.out⟩, by simp [intOf]; omega⟩
                · obtain ⟨q1, q2⟩ := HXP.out wr (chain HB4.out hb47) (HZEX.out l rfl h0)
                  have Q1 := hid q1
                  have Q2 := hid q2
                  rw [show (!true) = false from rfl]
                  clear q1 q2 h0 e hr hkp hb47 hlenF
                  go_wp2
                  exact ⟨⟨k + 1, by omega, by go_num, Q1.out, Q2.out⟩, by simp [intOf]; omega⟩
          · have hno := HNOX.out (by rw [← hkl]; exact hk1)
            obtain ⟨q1, q2⟩ := HXP.out w4 HB4.out hno
            have Q1 := hid q1
            have Q2 := hid q2
            have hkb : ((kl : Int) != 1) = true := ne_one hk1
            clear q1 q2 hno hT4 hkl
            go_wp2
            exact ⟨⟨k + 1, by omega, by go_num, Q1.out, Q2.out⟩, by simp [intOf]; omega⟩
      · obtain rfl : N = k := by omega
        have e := HALL.out N (Nat.le_refl _)
        rw [e] at ho
        have HO := hid ho
        have HB := hid (chain HB2.out hbk)
        clear e ho hbk
        go_wp2
        go_ret2
        exact ⟨_, w2.heap.size, HB2.out.size, HB.out, .inr ⟨by first | trivial | rfl, rfl, HO.out⟩⟩
end Go.Proofs.Ytfipebkhomppmaa

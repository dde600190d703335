/- The statement LinKnown: the walk. -/
import Derived.Test.YtfipebkhomppmaaKnI
import Derived.Test.YtfipebkhomppmaaLwAD
import Derived.Test.YtfipebkhomppmaaOpen
namespace Go.Proofs.Ytfipebkhomppmaa
open Go.RowKit
set_option linter.unusedVariables false

theorem weight_is {M : Mask} (hok : okM M = true) {q : Nat} (hq : q < colsM M) {z : List Int} {c : Int} (e : weightF M (colsM M) q = some (z, c)) : weighB M (q : Int) z = true := by
  obtain ⟨hM, _⟩ := okM_ok hok
  obtain ⟨hl, hz, hc1, hc2, hs, _⟩ := hM.weight e
  have e2 : ∀ j, j < colsM M → vec (backF M (colsM M) z) j = if j = q then c else 0 := fun j hj => by
    rw [← hs j hj]
    unfold backF
    rw [vec_map_list _ _ (by simpa using hj)]
    simp only [List.getElem_range]
    unfold dotV
    rw [colV_len]
    refine sm_congr fun i hi => ?_
    rw [Int.mul_comm]
    congr 1
    unfold colV rowv
    rw [vec_map_list _ _ hi, List.getElem?_eq_getElem hi]
    rfl
  refine wb_yes hok hl (List.all_eq_true.2 fun x hx => ?_) (by unfold inB; simp; omega) fun j hj => ?_
  · have := mem_vec (P := fun x => -1000000 ≤ x ∧ x ≤ 1000000) (fun i => by have := hz i; omega) x hx
    unfold inB
    simp
    exact this
  · rw [e2 j hj]
    constructor
    · intro h; rw [if_pos (by omega)]; omega
    · intro h; rw [if_neg (by omega)]
theorem mem_knTo {M : Mask} {W : Nat} {p : Int} : p ∈ knTo M W ↔ ∃ q : Nat, q < W ∧ p = (q : Int) ∧ knB M q = true := by
  unfold knTo
  simp only [List.mem_map, List.mem_filter, List.mem_range]
  constructor
  · rintro ⟨q, ⟨h1, h2⟩, rfl⟩; exact ⟨q, h1, rfl, h2⟩
  · rintro ⟨q, h1, rfl, h2⟩; exact ⟨q, ⟨h1, h2⟩, rfl⟩
theorem take_mem_succ {l : List Int} {k : Nat} (hk : k < l.length) (p : Int) : decide (p ∈ l.take (k + 1)) = (decide (p ∈ l.take k) || (l[k]?.getD 0 == p)) := by
  rw [List.take_succ_eq_append_getElem hk, List.getElem?_eq_getElem hk]
  generalize l.take k = t
  by_cases h : p ∈ t
  · simp [h]
  · by_cases h2 : l[k] = p
    · simp [h, h2]
    · have h3 : ¬ p = l[k] := fun e => h2 e.symm
      simp [h, h2, h3]

/-- what Weight says, with what the law asks of it -/
def WtLaw (M : Mask) (p : Int) (n W : Nat) (B : Bool) (e : Ending) (w' : World) : Prop :=
  (e = .returned (.tuple #[.slice none 0 0, .int .i64 5]) ∧ (p < 0 ∨ (W : Int) ≤ p)) ∨
  (e = .returned (.tuple #[.slice none 0 0, .int .i64 8]) ∧ B = false ∧ 0 ≤ p ∧ p < (W : Int)) ∨
  (∃ z a cap, e = .returned (.tuple #[.slice a n cap, .int .i64 0]) ∧ z.length = n ∧ IntsAt w' a z ∧ B = true ∧ weighB M p z = true)
theorem wt_law {M : Mask} {p : Int} {n : Nat} (hn : M.length = n) (hok : okM M = true) {e : Ending} {w' : World} (h : WeightPost M p n e w') : WtLaw M p n (colsM M) (decide (p ∈ knTo M (colsM M))) e w' := by
  rcases h with ⟨h1, he⟩ | ⟨h1, q, rfl, hq, ⟨hw, he⟩ | ⟨z, c, a, cap, hw, he, hi⟩⟩
  · left
    have hpx : pixE M [p] = if inB p 0 ((colsM M : Int) - 1) = true then 0 else 5 := by
      unfold pixE
      rw [if_pos hok]
      simp [namedE, ascB]
    by_cases hin : inB p 0 ((colsM M : Int) - 1) = true
    · rw [if_pos hin] at hpx; exact absurd hpx h1
    · rw [if_neg hin] at hpx
      rw [hpx] at he
      refine ⟨he, ?_⟩
      unfold inB at hin
      simp at hin
      omega
  · right; left
    refine ⟨he, ?_, by omega, by omega⟩
    rw [decide_eq_false_iff_not, mem_knTo]
    rintro ⟨k, _, e, hk⟩
    obtain rfl : q = k := by omega
    unfold knB at hk; rw [hw] at hk; cases hk
  · right; right
    obtain ⟨hM, _⟩ := okM_ok hok
    refine ⟨z, a, cap, he, by rw [← hn]; exact (hM.weight hw).1, hi, ?_, weight_is hok hq hw⟩
    rw [decide_eq_true_iff, mem_knTo]
    exact ⟨q, hq, rfl, by unfold knB; rw [hw]; rfl⟩

set_option maxRecDepth 100000 in
set_option maxHeartbeats 4000000 in
theorem linKnown_c (w : World) (a : Option Addr) (n cap : Nat) (M : Mask) (hn : M.length = n) (hm : n ≤ maxLen) (H : RowsAt w a M) (_ : ∀ y ∈ M, ∀ z ∈ y, Fits64 z) (a2 : Option Addr) (n2 cap2 : Nat) (y : List Int) (hn2 : y.length = n2) (hm2 : n2 ≤ maxLen) (H2 : IntsAt w a2 y) (_ : ∀ z ∈ y, Fits64 z) (p : Int) (hp : Fits64 p) :
    Calls Try.prog 11 #[.slice a n cap, .slice a2 n2 cap2, .int .i64 p] w fun e w' => e = .returned (.bool true) ∧ Below w.heap.size w w' := by
  have HAW := hid (fun X => awake_c X)
  have HSM := hid (small_c w a n cap M hn hm H none 0 0)
  have HLG := hid (long_c (w.alloc (.cells #[.slice a2 n2 cap2] 31)) (some ⟨w.heap.size, 0, none⟩) 1 1 [y] rfl (by decide) (rows_one hn2 hm2 H2))
  have HB1 := hid (show Below w.heap.size w (w.alloc (.cells #[.slice a2 n2 cap2] 31)) from (Below.refl _ _).alloc (Nat.le_refl _) _)
  have HK1 := hid (fun (X : World) (hX : Below w.heap.size w X) => lknown_c X a n cap M hn hm (H.below hX))
  have HK2 := hid (fun (X : World) (hX : Below w.heap.size w X) => r3Known_c X a n cap M hn hm (H.below hX))
  have HV1 := hid (fun (X : World) (hX : Below w.heap.size w X) => lvalue_c X a a2 n cap n2 cap2 M y hn hn2 hm hm2 (H.below hX) (H2.below hX) p)
  have HV2 := hid (fun (X : World) (hX : Below w.heap.size w X) => r3Value_c X a a2 n cap n2 cap2 M y hn hn2 hm hm2 (H.below hX) (H2.below hX) p)
  have HWT := hid (fun (hok : okM M = true) (X : World) (hX : Below w.heap.size w X) => (lweight_c X a n cap M hn hm (H.below hX) p).mono (R' := fun e w' => Below X.heap.size X w' ∧ WtLaw M p n (colsM M) (decide (p ∈ knTo M (colsM M))) e w') (fun e w' ⟨h1, h2⟩ => ⟨h1, wt_law hn hok h2⟩))
  have HW1 := hid (fun (z : List Int) (hz : z.length = n) (zb : weighB M p z = true) (b : Option Addr) (c : Nat) (X : World) (hX : Below w.heap.size w X) (hI : IntsAt X b z) => (weighs_c X a b n cap n c M p z hn hz hm hm (H.below hX) hI).mono (R' := fun e w' => e = .returned (.bool true) ∧ Below X.heap.size X w') (fun e w' ⟨h1, h2⟩ => ⟨by rw [h1, zb], h2⟩))
  have HW2 := hid (fun (z : List Int) (hz : z.length = n) (zb : weighB M p z = true) (b : Option Addr) (c : Nat) (X : World) (hX : Below w.heap.size w X) (hI : IntsAt X b z) => (r3Weighs_c X a b n cap n c M p z hn hz hm hm (H.below hX) hI).mono (R' := fun e w' => e = .returned (.bool true) ∧ Below X.heap.size X w') (fun e w' ⟨h1, h2⟩ => ⟨by rw [h1, zb], h2⟩))
  have HKL := hid (show okM M = true → knownL M = knTo M (colsM M) ∧ colsM M ≤ 10 ∧ 1 ≤ n from fun hok => by
    obtain ⟨_, h1, _, _, h10⟩ := okM_ok hok
    exact ⟨by unfold knownL; rw [if_pos hok], h10, by omega⟩)
  have HKN := hid (show okM M = false → knownL M = [] from fun hok => by unfold knownL; rw [hok]; rfl)
  have HCC := hid (show okM M = true → ∃ b off ra rc, a = some ⟨b, off, none⟩ ∧ ∀ X, Below w.heap.size w X → X.cell? ⟨b, off, none⟩ = some (.slice ra (colsM M) rc) from fun hok => by
    obtain ⟨_, h1, _⟩ := okM_ok hok
    obtain ⟨b, off, ra, rc, e, hb, hc⟩ := rows_head H (by omega)
    exact ⟨b, off, ra, rc, e, fun X hX => (hX.cell (p := ⟨b, off, none⟩) hb).trans hc⟩)
  have HEE := hid (show okE M = if okM M = true then 0 else 1 from rfl)
  obtain ⟨B0, hB0⟩ : ∃ B, B = longB [y] := ⟨_, rfl⟩
  rw [← hB0] at HLG
  obtain ⟨L, hL⟩ : ∃ L, L = knownL M := ⟨_, rfl⟩
  rw [← hL] at HK1 HK2 HKL HKN
  obtain ⟨E, hE⟩ : ∃ E, E = okE M := ⟨_, rfl⟩
  rw [← hE] at HK1 HK2 HEE
  obtain ⟨⟨⟨r1, r2⟩, vE⟩, hV⟩ : ∃ V, V = valueV M y p := ⟨_, rfl⟩
  rw [← hV] at HV1 HV2
  simp only [ratV] at HV1 HV2
  obtain ⟨W, hW⟩ : ∃ W, W = colsM M := ⟨_, rfl⟩
  rw [← hW] at HKL HCC HWT
  obtain ⟨K, hK⟩ : ∃ K, K = L.length := ⟨_, rfl⟩
  rw [← hK] at HK1 HK2
  have HLK := hid hK.symm
  clear hn hn2 H H2 hB0 hL hE hV hW hK
  go_enter Try.func11, Try.ntmps11
  go_wp2_with (go_at_call 23; refine HSM.out.mono ?_; rintro e w1 ⟨⟨sb, rfl⟩, rfl⟩; refine Stop.of ?_)
  refine Stop.go ?_
  cases sb
  · go_wp2_with (go_at_call 14; refine (HAW.out _).mono ?_; rintro e w2 ⟨rfl, hb2⟩)
    go_ret
    exact ⟨rfl, hb2⟩
  go_wp2_with (go_at_call 24; refine HLG.out.mono ?_; rintro e w2 ⟨rfl, hw2⟩; refine Stop.of ?_)
  refine Stop.go ?_
  rw [hw2] at HB1
  clear hw2 HLG HSM
  cases B0
  rotate_left
  · go_wp2_with (go_at_call 14; refine (HAW.out _).mono ?_; rintro e w3 ⟨rfl, hb3⟩)
    go_ret
    exact ⟨rfl, chain HB1.out hb3⟩
  go_wp2_with (go_at_call 33; refine (HK1.out _ HB1.out).mono ?_; rintro e w3 ⟨v3, base3, rfl, hbs3, ho3, hb3⟩; refine Stop.of ?_)
  refine Stop.go ?_
  have HB3 := hid (chain HB1.out hb3)
  obtain ⟨ka, kc, rfl, hki, hkm⟩ := ints_of_own ho3 HLK.out
  have HKI3 := hid hki
  clear hb3 HB1 HK1 ho3 hki hbs3
  go_wp2_with (go_at_call 52; refine (HK2.out _ HB3.out).mono ?_; rintro e w4 ⟨v4, base4, rfl, hbs4, ho4, hb4⟩; refine Stop.of ?_)
  refine Stop.go ?_
  have HB4 := hid (chain HB3.out hb4)
  have HKI4 := hid (HKI3.out.below hb4)
  obtain ⟨ja, jc, rfl, hji, hjm⟩ := ints_of_own ho4 HLK.out
  have HJI4 := hid hji
  clear hb4 HB3 HK2 ho4 hji hbs4 HKI3
  go_wp2_with (go_at_call 53; refine (HV1.out _ HB4.out).mono ?_; rintro e w5 ⟨rfl, hb5⟩; refine Stop.of ?_)
  refine Stop.go ?_
  have HB5 := hid (chain HB4.out hb5)
  have HKI5 := hid (HKI4.out.below hb5)
  have HJI5 := hid (HJI4.out.below hb5)
  clear hb5 HB4 HKI4 HJI4 HV1
  obtain ⟨wa, hwa⟩ : ∃ wa, wa = w5.alloc (.cells #[.int .i64 r1, .int .i64 r2] 46) := ⟨_, rfl⟩
  have hba : Below w5.heap.size w5 wa := by rw [hwa]; exact (Below.refl _ _).alloc (Nat.le_refl _) _
  obtain ⟨s5, hs5⟩ : ∃ s, s = w5.heap.size := ⟨_, rfl⟩
  have hqa : wa.heap[s5]? = some (.cells #[.int .i64 r1, .int .i64 r2] 46 (0, 0)) := by rw [hwa, hs5]; exact World.alloc_heap_new w5 _
  have HBA := hid (chain HB5.out hba)
  have HKIA := hid (HKI5.out.below hba)
  have HJIA := hid (HJI5.out.below hba)
  have HQA := hid hqa
  have HV2A := hid (HV2.out _ HBA.out)
  clear hba hqa HB5 HKI5 HJI5 HV2
  go_wp2_with fail
  rw [← hwa, ← hs5]
  clear hwa hs5
  go_wp2_with (go_at_call 54; refine HV2A.out.mono ?_; rintro e w6 ⟨rfl, hb6⟩; refine Stop.of ?_)
  refine Stop.go ?_
  obtain ⟨wb, hwb⟩ : ∃ wb, wb = w6.alloc (.cells #[.int .i64 r1, .int .i64 r2] 46) := ⟨_, rfl⟩
  have hbb : Below w6.heap.size w6 wb := by rw [hwb]; exact (Below.refl _ _).alloc (Nat.le_refl _) _
  obtain ⟨s6, hs6⟩ : ∃ s, s = w6.heap.size := ⟨_, rfl⟩
  have hqb : wb.heap[s6]? = some (.cells #[.int .i64 r1, .int .i64 r2] 46 (0, 0)) := by rw [hwb, hs6]; exact World.alloc_heap_new w6 _
  have hab := hb6.trans (hbb.mono hb6.size)
  have HBB := hid (chain HBA.out hab)
  have HKIB := hid (HKIA.out.below hab)
  have HJIB := hid (HJIA.out.below hab)
  have hqab : wb.heap[s5]? = some (.cells #[.int .i64 r1, .int .i64 r2] 46 (0, 0)) := (hab.block s5 (Array.getElem?_eq_some_iff.1 HQA.out).1).trans HQA.out
  have HCL := hid (fun (X : World) (hX : Below wb.heap.size wb X) => show X.cell? ⟨s5, 0, none⟩ = some (.int .i64 r1) ∧ X.cell? ⟨s5, 1, none⟩ = some (.int .i64 r2) ∧ X.cell? ⟨s6, 0, none⟩ = some (.int .i64 r1) ∧ X.cell? ⟨s6, 1, none⟩ = some (.int .i64 r2) from by
    have h1 := (hX.block s5 (Array.getElem?_eq_some_iff.1 hqab).1).trans hqab
    have h2 := (hX.block s6 (Array.getElem?_eq_some_iff.1 hqb).1).trans hqb
    exact ⟨by simp [World.cell?, h1], by simp [World.cell?, h1], by simp [World.cell?, h2], by simp [World.cell?, h2]⟩)
  have HSI := hid (sameInts_c wb ka ja K kc K jc L L HLK.out HLK.out hkm hkm HKIB.out HJIB.out)
  have hdd : decide (L = L) = true := by simp
  rw [hdd] at HSI
  clear hb6 hbb hqb hab hqab HQA HBA HKIA HJIA HV2A hdd HJIB
  go_wp2_with fail
  rw [← hwb, ← hs6]
  clear hwb hs6
  go_wp2_with (go_at_call 22; refine HSI.out.mono ?_; rintro e w7 ⟨rfl, k7, rfl⟩; refine Stop.of ?_)
  refine Stop.go ?_
  have hb7 : Below wb.heap.size wb (wb.drewN k7) := below_drewN (Below.refl _ _) k7
  have HB7 := hid (chain HBB.out hb7)
  have HKI7 := hid (HKIB.out.below hb7)
  obtain ⟨d0, d1, e0, e1⟩ := HCL.out _ hb7
  clear hb7 HSI HBB HKIB HCL
  generalize wb.drewN k7 = w7 at HB7 HKI7 d0 d1 e0 e1 ⊢
  cases hok : okM M
  · obtain rfl : E = 1 := by rw [HEE.out, hok]; rfl
    go_wp2_with (go_at_call 14; refine (HAW.out _).mono ?_; rintro e w8 ⟨rfl, hb8⟩)
    go_ret
    exact ⟨rfl, chain HB7.out hb8⟩
  · obtain rfl : E = 0 := by rw [HEE.out, hok]; rfl
    obtain ⟨hLk, hW10, hn1⟩ := HKL.out hok
    obtain ⟨b, off, ra, rc, rfl, hcc⟩ := HCC.out hok
    have HC := hid hcc
    have HWT2 := hid (HWT.out hok)
    rw [← hLk] at HWT2
    obtain ⟨inB0, hin0⟩ : ∃ B, B = decide (p ∈ L) := ⟨_, rfl⟩
    rw [← hin0] at HWT2
    have HIN := hid hin0
    have HLE := hid (show K ≤ 10 from by rw [← HLK.out, hLk]; have := knTo_len M W; omega)
    clear hLk hcc HWT HKL HKN HCC hok hin0
    go_wp2
    go_loopw [15, 77] (fun v i wr => ∃ k : Nat, k ≤ K ∧ i = .int .i64 k ∧ v = .bool (decide (p ∈ L.take k)) ∧ wr = w7) (fun _ i _ => K - (intOf i).toNat)
    case atStart => exact ⟨0, Nat.zero_le _, rfl, by simp, rfl⟩
    case round =>
      obtain ⟨k, hk, rfl, rfl, rfl⟩ := hrel
      have hK10 := HLE.out
      by_cases hlt : k < K
      · have hkl : k < L.length := by rw [HLK.out]; exact hlt
        obtain ⟨b9, o9, rfl, hb9, hc9⟩ := HKI7.out k hkl
        have HTM := hid (take_mem_succ hkl p)
        obtain ⟨v0, hv0⟩ : ∃ v, v = L[k]?.getD 0 := ⟨_, rfl⟩
        rw [← hv0] at hc9 HTM
        obtain ⟨bk, hbk⟩ : ∃ v, v = decide (p ∈ L.take k) := ⟨_, rfl⟩
        rw [← hbk] at HTM ⊢
        obtain ⟨cb, hcb⟩ : ∃ cb, cb = (v0 == p) := ⟨_, rfl⟩
        rw [← hcb] at HTM
        have hcb2 := hcb.symm
        clear hv0 hbk hcb hb9 hkl
        cases bk
        · go_wp2
          refine ⟨⟨k + 1, by omega, by go_num, ?_, by first | trivial | rfl⟩, by simp [intOf]; omega⟩
          rw [HTM.out]; simp
        · go_wp2
          refine ⟨⟨k + 1, by omega, by go_num, ?_, by first | trivial | rfl⟩, by simp [intOf]; omega⟩
          rw [HTM.out]; simp
      · obtain rfl : k = K := by omega
        have htk : L.take k = L := List.take_of_length_le (by have := HLK.out; omega)
        rw [htk, ← HIN.out]
        have HW3 := hid (HWT2.out wr HB7.out)
        clear htk HWT2 HIN
        have hwc := HC.out
        go_wp2_with (go_at_call 55; refine HW3.out.mono ?_; rintro e w8 ⟨hb8, ⟨rfl, hp8⟩ | ⟨rfl, rfl, hp0, hpW⟩ | ⟨z, za, zc, rfl, hzl, hzi, rfl, hzb⟩⟩; all_goals refine Stop.of ?_)
        · refine Stop.go ?_
          have HB8 := hid (chain HB7.out hb8)
          have cc := HC.out _ HB8.out
          clear hb8 HC
          rcases hp8 with hp8 | hp8
          all_goals
            go_wp2_with (go_at_call 14; refine (HAW.out _).mono ?_; rintro e w9 ⟨rfl, hb9⟩)
            go_ret
            exact ⟨rfl, chain HB8.out hb9⟩
        · refine Stop.go ?_
          have HB8 := hid (chain HB7.out hb8)
          have cc := HC.out _ HB8.out
          clear hb8 HC
          go_wp2_with (go_at_call 14; refine (HAW.out _).mono ?_; rintro e w9 ⟨rfl, hb9⟩)
          go_ret
          exact ⟨rfl, chain HB8.out hb9⟩
        · refine Stop.go ?_
          have HB8 := hid (chain HB7.out hb8)
          have HZI := hid hzi
          have HC1 := hid (HW2.out z hzl hzb za zc _ HB8.out hzi)
          have HC2 := hid (fun (X : World) (hX : Below w8.heap.size w8 X) => HW1.out z hzl hzb za zc X (chain HB8.out hX) (hzi.below hX))
          clear hb8 HC hzl hzb hzi HW1 HW2
          go_wp2_with (go_at_call 43; refine HC1.out.mono ?_; rintro e w9 ⟨rfl, hb9⟩; refine Stop.of ?_)
          refine Stop.go ?_
          have HC3 := hid (HC2.out _ hb9)
          have HB9 := hid (chain HB8.out hb9)
          clear hb9 HC1 HC2
          go_wp2_with (go_at_call 42; refine HC3.out.mono ?_; rintro e w10 ⟨rfl, hb10⟩; refine Stop.of ?_)
          refine Stop.go ?_
          have HB10 := hid (chain HB9.out hb10)
          clear hb10 HC3
          go_wp2_with (go_at_call 14; refine (HAW.out _).mono ?_; rintro e w11 ⟨rfl, hb11⟩)
          go_ret
          exact ⟨rfl, chain HB10.out hb11⟩
end Go.Proofs.Ytfipebkhomppmaa

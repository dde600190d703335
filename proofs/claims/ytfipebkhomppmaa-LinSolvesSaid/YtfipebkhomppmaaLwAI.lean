/- Walks: Named, Pixels (package part), Independent (package lin). -/
import Derived.Test.YtfipebkhomppmaaLwAH
namespace Go.Proofs.Ytfipebkhomppmaa
open Go.RowKit
set_option linter.unusedVariables false

/-- strictly ascending -/
def ascB (l : List Int) : Bool := decide (∀ i, i < l.length - 1 → l[i]?.getD 0 < l[i + 1]?.getD 0)
def namedE (W : Nat) (l : List Int) : Int := if ascB l = true then (if l.all (fun p => inB p 0 ((W : Int) - 1)) = true then 0 else 5) else 7
def pixE (M : Mask) (l : List Int) : Int := if okM M = true then namedE (colsM M) l else 1
theorem asc_pair {l : List Int} (h : ascB l = true) : l.Pairwise (· < ·) := by
  have h1 : ∀ i, i < l.length - 1 → l[i]?.getD 0 < l[i + 1]?.getD 0 := of_decide_eq_true h
  have h2 : ∀ d i, i + d + 1 < l.length → l[i]?.getD 0 < l[i + d + 1]?.getD 0 := by
    intro d
    induction d with
    | zero => intro i hi; exact h1 i (by omega)
    | succ d ih => intro i hi; exact Int.lt_trans (ih i (by omega)) (h1 (i + d + 1) (by omega))
  rw [List.pairwise_iff_getElem]
  intro i j hi hj hij
  have := h2 (j - i - 1) i (by omega)
  rw [show i + (j - i - 1) + 1 = j by omega, List.getElem?_eq_getElem hi, List.getElem?_eq_getElem hj] at this
  exact this
theorem pair_asc {l : List Int} (h : l.Pairwise (· < ·)) : ascB l = true := by
  refine decide_eq_true fun i hi => ?_
  rw [List.getElem?_eq_getElem (by omega), List.getElem?_eq_getElem (by omega)]
  exact List.pairwise_iff_getElem.1 h i (i + 1) (by omega) (by omega) (by omega)
theorem asc_no {l : List Int} {k : Nat} (hk : k + 1 < l.length) (h : ¬ l[k]?.getD 0 < l[k + 1]?.getD 0) : ascB l = false := decide_eq_false fun h1 => h (h1 k (by omega))
theorem asc_yes {l : List Int} (h : ∀ i, i + 1 < l.length → l[i]?.getD 0 < l[i + 1]?.getD 0) : ascB l = true := decide_eq_true fun i hi => h i (by omega)
theorem named_ok {W : Nat} {l : List Int} (h : namedE W l = 0) : SetOk W l := by
  unfold namedE at h
  split at h
  · rename_i h1
    split at h
    · rename_i h2
      refine ⟨asc_pair h1, fun y hy => ?_⟩
      have := List.all_eq_true.1 h2 y hy
      unfold inB at this
      simp only [Bool.and_eq_true, decide_eq_true_eq] at this
      omega
    · omega
  · omega

theorem named1 (w : World) (b : Nat) (m : Int) (hm : 0 ≤ m ∧ m ≤ 1000000000) (hc : w.cell? ⟨b, 0, none⟩ = some (.int .i64 m)) (hb : b < w.heap.size) :
    PredI Try.prog 154 #[.pointer (some ⟨b, 0, none⟩)] w (fun n => !(inB n 0 (m - 1))) := by
  intro x W hW
  have hc' : W.cell? ⟨b, 0, none⟩ = some (.int .i64 m) := (hW.cell (p := ⟨b, 0, none⟩) hb).trans hc
  obtain ⟨z, hz⟩ : ∃ z, z = m - 1 := ⟨_, rfl⟩
  have hw : IntKind.i64.wrap (m - 1) = z := by rw [hz]; exact IntWalk.i64_in _ (by omega)
  rw [← hz]
  obtain ⟨B, hB⟩ : ∃ B, B = inB x 0 z := ⟨_, rfl⟩
  have HP := hid (pwithin_c x 0 z W)
  rw [← hB] at HP
  simp only [← hB]
  clear hB hc hz
  show Calls Try.prog 154 #[.int .i64 x, .pointer (some ⟨b, 0, none⟩)] W _
  go_enter Try.func154, Try.ntmps154
  go_wp2_with (go_at_call 128; refine HP.out.mono ?_; rintro e w1 ⟨rfl, rfl⟩)
  go_ret
  exact ⟨rfl, Below.refl _ _⟩

set_option maxHeartbeats 1000000 in
theorem named_c (w : World) (W : Nat) (hW : W ≤ 1000) (a : Option Addr) (n cap : Nat) (l : List Int) (hn : l.length = n) (hm : n ≤ maxLen) (H : IntsAt w a l) :
    Calls Try.prog 133 #[.int .i64 W, .slice a n cap] w fun e w' => e = .returned (.int .i64 (namedE W l)) ∧ Below w.heap.size w w' := by
  have HN := hid hn
  have HH := hid (fun (X : World) (hX : Below w.heap.size w X) => H.below hX)
  obtain ⟨E, hE⟩ : ∃ E, E = namedE W l := ⟨_, rfl⟩
  rw [← hE]
  have HE := hid hE
  clear hn H hE
  have hm' : n ≤ 9223372036854775807 := by unfold maxLen at hm; omega
  go_enter Try.func133, Try.ntmps133
  obtain ⟨w1, hw1⟩ : ∃ w1, w1 = w.alloc (.cells #[.int .i64 W] 3) := ⟨_, rfl⟩
  have hb1 : Below w.heap.size w w1 := by rw [hw1]; exact (Below.refl _ _).alloc (Nat.le_refl _) _
  have hc1 : w1.cell? ⟨w.heap.size, 0, none⟩ = some (.int .i64 W) := by rw [hw1, World.cell?_alloc_at _ _ _ _ rfl]; rfl
  have hs1 : w.heap.size < w1.heap.size := by rw [hw1]; simp
  have HB1 := hid hb1
  have HC1 := hid hc1
  have HW1 := hid hw1
  clear hb1 hc1 hw1
  go_wp2
  try rw [← HW1.out]
  go_loopw [9] (fun i wr => ∃ k : Nat, k ≤ n ∧ i = .int .i64 k ∧ wr = w1 ∧ Hid (∀ i, i + 1 < k → l[i]?.getD 0 < l[i + 1]?.getD 0)) (fun i _ => n - (intOf i).toNat)
  case atStart => exact ⟨0, Nat.zero_le _, rfl, by first | exact HW1.out.symm | rfl, hid (fun i h => by omega)⟩
  case round =>
    obtain ⟨k, hk, rfl, rfl, HNO⟩ := hrel
    by_cases hlt : k < n
    · have hkl : k < l.length := by rw [HN.out]; exact hlt
      obtain ⟨b, off, rfl, hbs, hc⟩ := (HH.out wr HB1.out) k hkl
      rcases Nat.eq_zero_or_pos k with h0 | h0
      · subst h0
        obtain ⟨x, hx⟩ : ∃ x, x = l[0]?.getD 0 := ⟨_, rfl⟩
        rw [← hx, Nat.add_zero] at hc
        clear hx hkl
        go_wp2
        exact ⟨⟨1, by omega, by go_num, by first | trivial | rfl, hid (fun i h => by omega)⟩, by simp [intOf]; omega⟩
      · obtain ⟨p, rfl⟩ : ∃ p, k = p + 1 := ⟨k - 1, by omega⟩
        obtain ⟨b', off', e', _, hc2⟩ := (HH.out wr HB1.out) p (by omega)
        cases e'
        have hpi : ((p + 1 : Nat) : Int) - 1 = (p : Int) := by omega
        have hpn : (p : Int) < (n : Int) := by omega
        have hpp : (0 : Int) < ((p + 1 : Nat) : Int) := by omega
        have HNO2 := hid (fun (h : ¬ l[p]?.getD 0 < l[p + 1]?.getD 0) => asc_no (by rw [HN.out]; exact hlt) h)
        have HNX := hid (fun (h : l[p]?.getD 0 < l[p + 1]?.getD 0) => (show ∀ i, i + 1 < p + 1 + 1 → l[i]?.getD 0 < l[i + 1]?.getD 0 from fun i hi => by
          rcases Nat.lt_or_ge i p with h1 | h1
          · exact HNO.out i (by omega)
          · have : i = p := by omega
            subst this; exact h))
        obtain ⟨x, hx⟩ : ∃ x, x = l[p + 1]?.getD 0 := ⟨_, rfl⟩
        obtain ⟨y, hy⟩ : ∃ x, x = l[p]?.getD 0 := ⟨_, rfl⟩
        rw [← hx] at hc HNO2 HNX
        rw [← hy] at hc2 HNO2 HNX
        clear hx hy hkl
        by_cases hle : x ≤ y
        · have HA := hid (HNO2.out (by omega))
          obtain rfl : E = 7 := by rw [HE.out]; unfold namedE; rw [HA.out]; rfl
          go_wp2
          go_ret
          exact ⟨rfl, HB1.out⟩
        · have HX := hid (HNX.out (by omega))
          go_wp2
          exact ⟨⟨p + 1 + 1, by omega, by go_num, by first | trivial | rfl, HX⟩, by simp [intOf]; omega⟩
    · obtain rfl : n = k := by omega
      have HA := hid (asc_yes (l := l) (fun i hi => HNO.out i (by rw [← HN.out]; exact hi)))
      have HCF := hid (containsI wr a n cap l HN.out hm (HH.out wr HB1.out) 154 #[.pointer (some ⟨w.heap.size, 0, none⟩)] (fun p => !(inB p 0 ((W : Int) - 1))) (enters_of Try.func154 (by kernel_rfl) rfl) (named1 wr w.heap.size W (by omega) HC1.out hs1))
      have hany : l.any (fun p => !(inB p 0 ((W : Int) - 1))) = !(l.all (fun p => inB p 0 ((W : Int) - 1))) := by rw [List.not_all_eq_any_not]
      rw [hany] at HCF
      have hee := HE.out
      unfold namedE at hee
      rw [if_pos HA.out] at hee
      clear hany HNO
      cases hall : l.all (fun p => inB p 0 ((W : Int) - 1))
      · rw [hall] at HCF hee
        obtain rfl : E = 5 := hee
        clear hall
        go_wp2_with (go_at_call 71; refine HCF.out.mono ?_; rintro e w3 ⟨rfl, hb3⟩)
        go_ret
        exact ⟨rfl, chain HB1.out hb3⟩
      · rw [hall] at HCF hee
        obtain rfl : E = 0 := hee
        clear hall
        go_wp2_with (go_at_call 71; refine HCF.out.mono ?_; rintro e w3 ⟨rfl, hb3⟩)
        go_ret
        exact ⟨rfl, chain HB1.out hb3⟩

theorem pixels_c (w : World) (a a2 : Option Addr) (n cap n2 cap2 : Nat) (M : Mask) (l : List Int) (hn : M.length = n) (hn2 : l.length = n2) (hm : n ≤ maxLen) (hm2 : n2 ≤ maxLen) (H : RowsAt w a M) (H2 : IntsAt w a2 l) :
    Calls Try.prog 84 #[.slice a n cap, .slice a2 n2 cap2] w fun e w' => e = .returned (.int .i64 (pixE M l)) ∧ Below w.heap.size w w' := by
  have HV := hid (maskValid_c w a n cap M hn hm H)
  cases hok : okM M
  · rw [hok] at HV
    have he : pixE M l = 1 := by unfold pixE; rw [hok]; rfl
    rw [he]
    clear hn hn2 H H2 hok he
    go_enter Try.func84, Try.ntmps84
    go_wp2_with (go_at_call 69; refine HV.out.mono ?_; rintro e w1 ⟨rfl, hb1⟩)
    go_ret
    exact ⟨rfl, hb1⟩
  · rw [hok] at HV
    have he : pixE M l = namedE (colsM M) l := by unfold pixE; rw [if_pos hok]
    rw [he]
    obtain ⟨hM, h1, h6, hc1, hc10⟩ := okM_ok hok
    obtain ⟨b, off, ra, rc, rfl, hb, hc⟩ := rows_head H (by omega)
    have hz : (0 : Int) < (n : Int) := by omega
    obtain ⟨W, hW⟩ : ∃ W, W = colsM M := ⟨_, rfl⟩
    rw [← hW] at hc hc1 hc10 ⊢
    have HS := hid (fun (X : World) (hX : Below w.heap.size w X) => (hX.cell (p := ⟨b, off, none⟩) hb).trans hc)
    have HNM := hid (fun (X : World) (hX : Below w.heap.size w X) => named_c X W (by omega) a2 n2 cap2 l hn2 hm2 (H2.below hX))
    obtain ⟨E, hE⟩ : ∃ E, E = namedE W l := ⟨_, rfl⟩
    rw [← hE] at HNM ⊢
    clear hn hn2 H H2 hok he hM hW hE hc hb
    go_enter Try.func84, Try.ntmps84
    go_wp2_with (go_at_call 69; refine HV.out.mono ?_; rintro e w1 ⟨rfl, hb1⟩; refine Stop.of ?_)
    refine Stop.go ?_
    have hc1' := HS.out w1 hb1
    have HB1 := hid hb1
    clear hb1
    go_wp2_with (go_at_call 133; refine (HNM.out w1 HB1.out).mono ?_; rintro e w2 ⟨rfl, hb2⟩)
    go_ret
    exact ⟨rfl, chain HB1.out hb2⟩

/-- whether some columns are independent, and the error -/
def indepV (M : Mask) (l : List Int) : Bool × Int := if pixE M l = 0 then (decide (rankF (colsF M l) l.length = l.length), 0) else (false, pixE M l)
theorem pix_ok {M : Mask} {l : List Int} (h : pixE M l = 0) : okM M = true ∧ SetOk (colsM M) l := by
  unfold pixE at h
  split at h
  · rename_i h1; exact ⟨h1, named_ok h⟩
  · omega
theorem set_le {W : Nat} {l : List Int} (h : SetOk W l) : l.length ≤ W := by
  have h1 : (l.map Int.toNat).Pairwise (· < ·) := by
    rw [List.pairwise_map]
    refine h.1.imp_of_mem fun {a b} ha hb hab => ?_
    have := h.2 a ha
    have := h.2 b hb
    omega
  have := asc_le (a := 0) (b := W) h1 (fun x hx => by
    obtain ⟨y, hy, rfl⟩ := List.mem_map.1 hx
    have := h.2 y hy
    omega)
  rw [List.length_map] at this
  omega

set_option maxHeartbeats 1000000 in
theorem independent_c (w : World) (a a2 : Option Addr) (n cap n2 cap2 : Nat) (M : Mask) (l : List Int) (hn : M.length = n) (hn2 : l.length = n2) (hm : n ≤ maxLen) (hm2 : n2 ≤ maxLen) (H : RowsAt w a M) (H2 : IntsAt w a2 l) :
    Calls Try.prog 34 #[.slice a n cap, .slice a2 n2 cap2] w fun e w' => e = .returned (.tuple #[.bool (indepV M l).1, .int .i64 (indepV M l).2]) ∧ Below w.heap.size w w' := by
  have HP := hid (pixels_c w a a2 n cap n2 cap2 M l hn hn2 hm hm2 H H2)
  by_cases hp : pixE M l = 0
  · have he : indepV M l = (decide (rankF (colsF M l) l.length = l.length), 0) := by unfold indepV; rw [if_pos hp]
    rw [he]
    simp only []
    rw [hp] at HP
    obtain ⟨hok, hso⟩ := pix_ok hp
    obtain ⟨hM, h1, h6, hc1, hc10⟩ := okM_ok hok
    have hl10 := set_le hso
    have hn6 : n ≤ 6 := by omega
    have hS : ∀ r ∈ M, ∀ j ∈ l, 0 ≤ j ∧ j < r.length := fun r hr j hj => by rw [hM.wid r hr]; exact hso.2 j hj
    rcases Nat.eq_zero_or_pos n2 with h0 | h0
    · subst h0
      obtain rfl : l = [] := List.length_eq_zero_iff.1 hn2
      have HCh := hid (fun (X : World) (hX : Below w.heap.size w X) => chosenT_c X a n cap M hn (by omega) (H.below hX) a2 0 cap2 [] rfl (by omega) (H2.below hX) hS 80 #[] (enters_of Try.func80 (by kernel_rfl) rfl) (fun _ => []) (none_more X n) (fun i _ => by simp))
      have hd : decide (rankF (colsF M []) ([] : List Int).length = ([] : List Int).length) = true := rfl
      rw [hd]
      clear hn hn2 H H2 hp he hok hso hM hS hd
      go_enter Try.func34, Try.ntmps34
      go_wp2_with (go_at_call 84; refine HP.out.mono ?_; rintro e w1 ⟨rfl, hb1⟩; refine Stop.of ?_)
      refine Stop.go ?_
      go_wp2_with (go_at_call 79; refine (HCh.out w1 hb1).mono ?_; rintro e w2 ⟨v, rfl, _, hb2⟩; refine Stop.of ?_)
      refine Stop.go ?_
      go_wp2_with (go_at_call 78; refine (reduce0_c _ _).mono ?_; rintro e w3 ⟨rfl, rfl⟩)
      go_ret2
      exact ⟨rfl, chain hb1 hb2⟩
    · have HCh := hid (fun (X : World) (hX : Below w.heap.size w X) => chosen_c X a n cap M hn (by omega) (H.below hX) a2 n2 cap2 l hn2 (by omega) (H2.below hX) hS 80 #[] (enters_of Try.func80 (by kernel_rfl) rfl) (fun _ => []) (none_more X n) (fun i _ => ⟨by simp, by simp; omega⟩))
      rw [chosenF_none] at HCh
      have hC : MaskOk (colsF M l) n2 := by rw [← hn2]; exact hM.cols l
      have hCl : (colsF M l).length = n := by rw [colsF_len, hn]
      have HRd := hid (fun (W1 : World) (base : Nat) (v0 : Value) (hO : OwnT W1 base W1.heap.size v0 (colsF M l)) (hb : base ≤ W1.heap.size) => reduce_c W1 base v0 (colsF M l) n2 hO hb hC.wid (by omega) (by omega) (by omega) n2 (Nat.le_refl _) (fun t ht r hr => ⟨(hC.bnd ht r hr).1, fun x hx => by have := (hC.bnd ht r hr).2 x hx; omega⟩))
      rw [hn2]
      have hrk : (pRed (colsF M l) n2).2.length = rankF (colsF M l) n2 := rfl
      have hrle : rankF (colsF M l) n2 ≤ 6 := Nat.le_trans (rank_le hC) (by omega)
      obtain ⟨rk, hrk2⟩ : ∃ rk, rk = rankF (colsF M l) n2 := ⟨_, rfl⟩
      rw [← hrk2] at hrk hrle ⊢
      rw [hrk] at HRd
      have hdd : decide (rk = n2) = ((rk : Int) == (n2 : Int)) := by
        by_cases h : rk = n2
        · simp [h]
        · rw [decide_eq_false h]; symm; simp; omega
      rw [hdd]
      obtain ⟨B, hB⟩ : ∃ B, B = ((rk : Int) == (n2 : Int)) := ⟨_, rfl⟩
      have HB := hid hB
      rw [← hB]
      clear hn hn2 H H2 hp he hok hso hM hS hC hCl hrk hrk2 hdd hB
      go_enter Try.func34, Try.ntmps34
      go_wp2_with (go_at_call 84; refine HP.out.mono ?_; rintro e w1 ⟨rfl, hb1⟩; refine Stop.of ?_)
      refine Stop.go ?_
      go_wp2_with (go_at_call 79; refine (HCh.out w1 hb1).mono ?_; rintro e w2 ⟨v, rfl, hO2, hb2⟩; refine Stop.of ?_)
      refine Stop.go ?_
      have HR2 := hid (HRd.out w2 w1.heap.size v (OwnT.of hO2) hb2.size)
      clear hO2
      go_wp2_with (go_at_call 78; refine HR2.out.mono ?_; rintro e w3 ⟨vJ, rfl, hJo, hT3, hb3⟩; refine Stop.of ?_)
      refine Stop.go ?_
      obtain ⟨ja, jc, rfl⟩ := ownsRow_slice hJo
      have hbf : Below w.heap.size w w3 := chain hb1 (hb2.trans hb3)
      clear hJo hT3 hb3
      go_wp2
      go_ret2
      exact ⟨by rw [HB.out]; rfl, hbf⟩
  · have he : indepV M l = (false, pixE M l) := by unfold indepV; rw [if_neg hp]
    rw [he]
    simp only []
    obtain ⟨E, hE⟩ : ∃ E, E = pixE M l := ⟨_, rfl⟩
    rw [← hE] at HP hp ⊢
    have hpb : (E != 0) = true := by simpa using hp
    clear hn hn2 H H2 he hE
    go_enter Try.func34, Try.ntmps34
    go_wp2_with (go_at_call 84; refine HP.out.mono ?_; rintro e w1 ⟨rfl, hb1⟩)
    go_ret2
    exact ⟨rfl, hb1⟩
end Go.Proofs.Ytfipebkhomppmaa

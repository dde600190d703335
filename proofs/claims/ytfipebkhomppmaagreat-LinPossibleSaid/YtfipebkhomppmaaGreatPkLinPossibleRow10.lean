/- Walks and plain laws for LinPossibleRow, part 10. -/
import Derived.ChangeOld
import Derived.Deep.Slices
import Derived.Lib.SmallJoins
import Derived.Test.YtfipebkhomppmaaGreatPkLinPossibleRow9
namespace Go.Proofs.YtfipebkhomppmaaGreat
set_option linter.unusedVariables false

theorem RInv.piv_288 {W N : Nat} {A0 : Nat → Vec} {j : Nat} {L : List (List Int)} {J : List Nat} (h : RInv W N A0 j L J) (hN : N ≤ 6) (h1 : ∀ x ∈ J, ∀ r, -1 ≤ A0 r x ∧ A0 r x ≤ 1) {k : Nat} (hk : k < J.length) :
    0 < rowv L k (jf J k) ∧ rowv L k (jf J k) ≤ 288 := by
  have hp := (h.pp k hk).2
  refine ⟨hp, ?_⟩
  obtain ⟨A, hs, hA⟩ := h.st
  have hd := det_288 (pcols (jf J) A J.length) (fun x hx r => by
    obtain ⟨k, hk, rfl⟩ := mem_pcols.1 hx
    obtain ⟨q0, e⟩ := hA r
    simp only [e]
    exact h1 _ (by unfold jf; rw [List.getElem?_eq_getElem hk]; exact List.getElem_mem hk) q0) (downs J.length) (by rw [downs_len, pcols_len]) (by rw [pcols_len]; exact Nat.le_trans hs.le hN)
  have h0 := hs.d0
  have hdv := Int.natAbs_dvd_natAbs.2 (hs.piv_dvd hk (h.pp k hk).1)
  have := Nat.le_of_dvd (by omega) hdv
  omega

theorem sys_zero {R : List (List Int)} {n Y : Nat} (h : MaskY R n Y) (hn : n ∉ (rRed R (n + 1)).piv) {q : Nat} (h1 : (pRed R n).2.length ≤ q) (h2 : q < R.length) (c : Nat) : rowv (pRed R n).1 q c = 0 := by
  have hi := pRed_inv R h.wid n (fun j hj q => rowv_le (by decide) (fun r hr => h.one r hr j hj) q)
  rcases Nat.lt_or_ge c n with hc | hc
  · exact hi.zero q h1 h2 c hc
  · by_cases e : c = n
    · subst e
      rcases Classical.em (rowv (pRed R c).1 q c = 0) with e0 | e0
      · exact e0
      · exact absurd (red_more (m := c + 1) h.wid h.one (Nat.le_refl _) h1 h2 e0) hn
    · exact rowv_wid hi.wid q (by omega)

theorem foldl_set_other {α : Type} (f : Nat → α) (g : Nat → Nat) (l : List α) : ∀ (K j : Nat), (∀ a, a < K → g a ≠ j) → ((List.range K).foldl (fun out i => out.set (g i) (f i)) l)[j]? = l[j]?
  | 0, j, _ => by simp
  | K + 1, j, h => by
    rw [List.range_succ, List.foldl_append]
    simp only [List.foldl_cons, List.foldl_nil]
    rw [List.getElem?_set_ne (h K (by omega))]
    exact foldl_set_other f g l K j (fun a ha => h a (by omega))

theorem solved_shape {R : List (List Int)} {n Y : Nat} (h : MaskY R n Y) (hn : n ∉ (rRed R (n + 1)).piv) :
    (solvedR R n).2.2 = true ∧ (solvedR R n).1.length = n ∧ (∀ i, i < (pRed R n).2.length → ratAt (solvedR R n).1 (jf (pRed R n).2 i) = ratioF (rowv (pRed R n).1 i n) (rowv (pRed R n).1 i (jf (pRed R n).2 i))) ∧
    (∀ j, j ∉ (pRed R n).2 → ratAt (solvedR R n).1 j = (0, 1)) := by
  have hi := pRed_inv R h.wid n (fun j hj q => rowv_le (by decide) (fun r hr => h.one r hr j hj) q)
  obtain ⟨e1, e2⟩ := red_same (m := n + 1) h.wid h.one (Nat.le_refl _) (fun q h1 h2 c _ _ => sys_zero h hn h1 h2 c)
  have hl := pRed_len R n
  have hK := hi.K_le
  unfold solvedR
  simp only []
  rw [if_neg hn, e2, ← e1]
  refine ⟨rfl, by rw [foldl_set_len]; simp, fun i hlt => ?_, fun j hj => ?_⟩
  · unfold ratAt
    rw [foldl_set_at (fun i => ratioF (vec (((pRed R n).1.take (pRed R n).2.length)[i]?.getD []) n) (vec (((pRed R n).1.take (pRed R n).2.length)[i]?.getD []) (jf (pRed R n).2 i))) (fun i => jf (pRed R n).2 i) _ _ i hlt (by simp only [List.length_replicate]; exact hi.jf_lt hlt) (fun a b h1 h2 => by have := hi.ech.asc a b h1 h2; omega)]
    rw [List.getElem?_take_of_lt hlt]
    rfl
  · unfold ratAt
    rw [foldl_set_other _ _ _ _ j (fun a ha e => hj (by rw [← e]; exact jf_mem ha)), List.getElem?_replicate]
    split <;> rfl

theorem ratioF_low {a b : Int} (hb : 0 < b) : 0 < (ratioF a b).2 ∧ (ratioF a b).2 ≤ b ∧ (ratioF a b).1.natAbs ≤ a.natAbs ∧ Int.gcd (ratioF a b).1 (ratioF a b).2 = 1 ∧ (ratioF a b).1 * b = a * (ratioF a b).2 := by
  have g1 : 0 < Int.gcd a b := Nat.pos_of_ne_zero fun e => by have := (Int.gcd_eq_zero_iff.1 e).2; omega
  obtain ⟨a1, ha⟩ := Int.gcd_dvd_left a b
  obtain ⟨b1, hb1⟩ := Int.gcd_dvd_right a b
  have hG0 : ((Int.gcd a b : Nat) : Int) ≠ 0 := by omega
  have e : ratioF a b = (a1, b1) := by
    unfold ratioF
    rw [Int.tdiv_eq_of_eq_mul_left hG0 (c := a1) (by rw [Int.mul_comm]; exact ha), Int.tdiv_eq_of_eq_mul_left hG0 (c := b1) (by rw [Int.mul_comm]; exact hb1)]
  rw [e]
  have hb0 : 0 < b1 := by
    rcases Int.lt_or_le 0 b1 with h | h
    · exact h
    · have : ((Int.gcd a b : Nat) : Int) * b1 ≤ 0 := Int.mul_nonpos_of_nonneg_of_nonpos (by omega) h
      omega
  have hg : Int.gcd a1 b1 = 1 := by
    have k1 : Int.gcd (((Int.gcd a b : Nat) : Int) * a1) (((Int.gcd a b : Nat) : Int) * b1) = Int.gcd a b * Int.gcd a1 b1 := by
      rw [Int.gcd_mul_left]; simp
    rw [← ha, ← hb1] at k1
    exact Nat.eq_of_mul_eq_mul_left g1 (by omega)
  refine ⟨hb0, ?_, ?_, hg, ?_⟩
  · have : b1 * 1 ≤ b1 * ((Int.gcd a b : Nat) : Int) := Int.mul_le_mul_of_nonneg_left (by omega) (by omega)
    rw [Int.mul_comm b1 ((Int.gcd a b : Nat) : Int)] at this
    omega
  · have : a1.natAbs ≤ Int.gcd a b * a1.natAbs := Nat.le_mul_of_pos_left _ g1
    have h2 : a.natAbs = Int.gcd a b * a1.natAbs := by
      have := congrArg Int.natAbs ha
      rwa [Int.natAbs_mul, Int.natAbs_natCast] at this
    omega
  · show a1 * b = a * b1
    generalize ((Int.gcd a b : Nat) : Int) = G at ha hb1
    rw [ha, hb1]; grind

theorem sys_le {R : List (List Int)} {n Y : Nat} (h : MaskY R n Y) (i c : Nat) : (rowv (pRed R n).1 i c).natAbs ≤ 720 * Y := by
  unfold rowv
  cases hk : (pRed R n).1[i]? with
  | none => simp [vec]
  | some r =>
    have h2 := (pRed_le (n := n) (Y := Y) h.wid h.le6 (fun r hr c hc => h.one r hr c hc) h.all (Nat.le_refl n) r (List.mem_of_getElem? hk)).2
    have := vec_mem (P := fun x => x.natAbs ≤ 720 * Y) (by simp) (fun x hx => by have := h2 x hx; omega) c
    simpa using this

theorem solved_valid {R : List (List Int)} {n Y : Nat} (h : MaskY R n Y) (hY : Y ≤ 1000000) (hn : n ∉ (rRed R (n + 1)).piv) : (solvedR R n).1.all validR = true ∧ ∀ j, 0 < (ratAt (solvedR R n).1 j).2 := by
  obtain ⟨_, hl, hp, ho⟩ := solved_shape h hn
  have hi := pRed_inv R h.wid n (fun j hj q => rowv_le (by decide) (fun r hr => h.one r hr j hj) q)
  have hv : ∀ j, validR (ratAt (solvedR R n).1 j) = true := by
    intro j
    by_cases hj : j ∈ (pRed R n).2
    · obtain ⟨i, hilt, e⟩ := List.mem_iff_getElem.1 hj
      have ej : jf (pRed R n).2 i = j := by unfold jf; rw [List.getElem?_eq_getElem hilt]; simpa using e
      rw [← ej, hp i hilt]
      obtain ⟨b1, b2⟩ := hi.piv_288 h.le6 (fun x hx r => rowv_le (by decide) (fun r hr => h.one r hr x (hi.lt x hx)) r) hilt
      have b3 := sys_le h i n
      obtain ⟨c1, c2, c3, c4, _⟩ := ratioF_low (a := rowv (pRed R n).1 i n) b1
      have b4 : 720 * Y ≤ 720000000 := by omega
      rw [validR_iff]
      exact ⟨by omega, by omega, by omega, by omega, c4⟩
    · rw [ho j hj]; decide
  refine ⟨List.all_eq_true.2 fun r hr => ?_, fun j => ?_⟩
  · obtain ⟨j, hj, e⟩ := List.mem_iff_getElem.1 hr
    have := hv j
    unfold ratAt at this
    rw [List.getElem?_eq_getElem hj] at this
    rw [← e]; exact this
  · have := (validR_iff.1 (hv j)).1; omega

theorem sm_succ (f : Nat → Int) (n : Nat) : sm f (n + 1) = sm f n + f n := rfl

theorem solved_row {R : List (List Int)} {n Y : Nat} (h : MaskY R n Y) (hY : Y ≤ 1000000) (hn : n ∉ (rRed R (n + 1)).piv) {u : Vec} (hu : Sp (RB R.length (rowv R)) u) :
    sm (fun j => u j * numP (solvedR R n).1 n j) n = u n * denP (solvedR R n).1 n := by
  obtain ⟨_, hl, hp, ho⟩ := solved_shape h hn
  obtain ⟨_, hpos⟩ := solved_valid h hY hn
  have hi := pRed_inv R h.wid n (fun j hj q => rowv_le (by decide) (fun r hr => h.one r hr j hj) q)
  have hden : denP (solvedR R n).1 n ≠ 0 := denP_ne (fun k => by have := hpos k; omega) n
  have hnum := fun i (hi : i < n) => numP_eq (x := (solvedR R n).1) (W := n) hi
  generalize (solvedR R n).1 = X at hl hp ho hpos hden hnum ⊢
  have hsp := (hi.span (fun q h1 h2 c => sys_zero h hn h1 h2 c)).2 hu
  have key := dotS_sp (B := RB (pRed R n).2.length (rowv (pRed R n).1)) (h := fun c => if c < n then numP X n c else -denP X n) (n := n + 1) (by
    rintro v ⟨k, hk, rfl⟩
    have hkn := hi.jf_lt hk
    unfold dotS
    rw [sm_succ, sm_congr (g := fun c => rowv (pRed R n).1 k c * numP X n c) (fun c hc => by simp only [if_pos hc])]
    simp only [Nat.lt_irrefl, if_false]
    rw [sm_single hkn (fun c hc hne => ?_)]
    · have e1 := hnum _ hkn
      rw [hp k hk] at e1
      have hb := (hi.pp k hk).2
      obtain ⟨c1, _, _, _, c5⟩ := ratioF_low (a := rowv (pRed R n).1 k n) hb
      -- num * b2 = b1 * den, b1 * b = a * b2
      generalize rowv (pRed R n).1 k (jf (pRed R n).2 k) = b at *
      generalize rowv (pRed R n).1 k n = a at *
      generalize ratioF a b = p at *
      obtain ⟨b1, b2⟩ := p
      dsimp only at *
      have e2 : b2 * (b * numP X n (jf (pRed R n).2 k)) = b2 * (a * denP X n) := by
        have : b2 * (b * numP X n (jf (pRed R n).2 k)) = b * (numP X n (jf (pRed R n).2 k) * b2) := by grind
        rw [this, e1]
        have : b * (b1 * denP X n) = (b1 * b) * denP X n := by grind
        rw [this, c5]; grind
      have e3 := Int.eq_of_mul_eq_mul_left (show b2 ≠ 0 by omega) e2
      rw [e3, Int.mul_neg]; omega
    · by_cases hm : c ∈ (pRed R n).2
      · obtain ⟨q, hq, e⟩ := List.mem_iff_getElem.1 hm
        have ej : jf (pRed R n).2 q = c := by unfold jf; rw [List.getElem?_eq_getElem hq]; simpa using e
        have hqk : q ≠ k := fun e2 => hne (by rw [← ej, e2])
        rw [← ej, hi.ech.red.off k hk q hq (fun e3 => hqk e3.symm)]
        simp
      · have e1 := hnum c hc
        rw [ho c hm] at e1
        simp at e1
        rw [e1]; simp) hsp
  unfold dotS at key
  rw [sm_succ, sm_congr (g := fun c => u c * numP X n c) (fun c hc => by simp only [if_pos hc])] at key
  simp only [Nat.lt_irrefl, if_false] at key
  rw [Int.mul_neg] at key
  omega
end Go.Proofs.YtfipebkhomppmaaGreat

namespace Go.Proofs.YtfipebkhomppmaaGreat
set_option linter.unusedVariables false

theorem withY_trunc {M : List (List Int)} {n : Nat} (h : MaskOk M n) {y : List Int} (hy : y.length = M.length) {q : Nat} (hq : q < M.length) : truncV n (rowv (withY M y) q) = rowv M q := by
  funext c
  unfold truncV
  by_cases hc : c < n
  · rw [if_pos hc, withY_row h hy hq, if_pos hc]
  · rw [if_neg hc, rowv_wid h.wid q (by omega)]

theorem withY_piv {M : List (List Int)} {n : Nat} (h : MaskOk M n) {y : List Int} (hy : y.length = M.length) {Y : Nat} (hY : MaskY (withY M y) n Y) : (pRed (withY M y) n).2 = JP M n := by
  have he := pRed_inv (withY M y) hY.wid n (fun j hj q => rowv_le (by decide) (fun r hr => hY.one r hr j hj) q)
  rw [withY_len hy] at he
  have hi := h.inv n
  have hE : Ech (pRed (withY M y) n).2.length (jf (pRed (withY M y) n).2) (fun k => truncV n (rowv (pRed (withY M y) n).1 k)) := by
    have e := he.ech
    refine ⟨⟨fun k hk => ?_, fun k hk q hq hne => ?_⟩, fun k hk c hc => ?_, e.asc⟩
    · have hl := he.jf_lt hk
      simp only [truncV, if_pos hl]
      exact e.red.piv k hk
    · have hl := he.jf_lt hq
      simp only [truncV, if_pos hl]
      exact e.red.off k hk q hq hne
    · simp only [truncV]
      split
      · exact e.lead k hk c hc
      · rfl
  have s1 : ∀ k, k < (pRed (withY M y) n).2.length → Sp (RB (JP M n).length (rowv (RP M n))) (truncV n (rowv (pRed (withY M y) n).1 k)) := by
    intro k hk
    refine h.span.2 (truncV_sp (B := RB M.length (rowv (withY M y))) ?_ (he.sp1 k (Nat.lt_of_lt_of_le hk he.K_le)))
    rintro v ⟨q, hq, rfl⟩
    rw [withY_trunc h hy hq]; exact RB.sp hq
  have s2 : ∀ k, k < (JP M n).length → Sp (RB (pRed (withY M y) n).2.length (fun k => truncV n (rowv (pRed (withY M y) n).1 k))) (rowv (RP M n) k) := by
    intro k hk
    refine (h.span.1 (RB.sp hk)).trans ?_
    rintro v ⟨q, hq, rfl⟩
    rw [← withY_trunc h hy hq]
    refine truncV_sp (B := RB M.length (rowv (pRed (withY M y) n).1)) ?_ (he.sp2 q hq)
    rintro v ⟨m, hm, rfl⟩
    rcases Nat.lt_or_ge m (pRed (withY M y) n).2.length with c | c
    · exact .of ⟨m, c, rfl⟩
    · refine Sp.zero.congr fun x => ?_
      unfold truncV
      split
      · exact he.zero m c hm x ‹_›
      · rfl
  obtain ⟨hK, hJ, hR⟩ := hE.unique hi.ech s1 s2
  exact List.ext_getElem hK fun k h1 h2 => by
    have := hJ k h1
    unfold jf at this
    rw [List.getElem?_eq_getElem h1, List.getElem?_eq_getElem h2] at this
    simpa using this

theorem intsJ_get {J : List Nat} {k : Nat} (hk : k < J.length) : (intsJ J)[k]? = some ((jf J k : Nat) : Int) := by
  unfold intsJ jf
  rw [List.getElem?_map, List.getElem?_eq_getElem hk]; rfl
theorem pick_lt {J : List Nat} {k : Nat} (hk : k < J.length) (v : Vec) : pickV (intsJ J) v k = v (jf J k) := by
  unfold pickV
  rw [intsJ_get hk]; simp
theorem jf_of_mem {J : List Nat} {j : Nat} (h : j ∈ J) : ∃ k, k < J.length ∧ jf J k = j := by
  obtain ⟨i, hi, e⟩ := List.mem_iff_getElem.1 h
  exact ⟨i, hi, by unfold jf; rw [List.getElem?_eq_getElem hi]; simpa using e⟩

def pickY (J : List Nat) (n : Nat) (v : Vec) : Vec := fun c => if c < J.length then v (jf J c) else if c = J.length then v n else 0
theorem pickY_sp {B B' : Vec → Prop} {J : List Nat} {n : Nat} (hB : ∀ v, B v → Sp B' (pickY J n v)) {v : Vec} (h : Sp B v) : Sp B' (pickY J n v) :=
  Sp.map (pickY J n) (by funext c; unfold pickY; split <;> (try split) <;> rfl) (fun u v => by funext c; unfold pickY; split <;> (try split) <;> simp) (fun k u => by funext c; unfold pickY; split <;> (try split) <;> simp) hB h
theorem pick_row {M : List (List Int)} {n : Nat} (h : MaskOk M n) {y : List Int} (hy : y.length = M.length) {J : List Nat} (hJ : ∀ j ∈ J, j < n) {q : Nat} (hq : q < M.length) :
    rowv (withY (colsF M (intsJ J)) y) q = pickY J n (rowv (withY M y) q) := by
  funext c
  have hc := h.cols (intsJ J)
  rw [withY_row hc (by rw [colsF_len]; exact hy) (by rw [colsF_len]; exact hq), intsJ_len]
  unfold pickY
  by_cases h1 : c < J.length
  · rw [if_pos h1, if_pos h1, colsF_rowv, pick_lt h1, withY_row h hy hq, if_pos (hJ _ (jf_mem h1))]
  · rw [if_neg h1, if_neg h1]
    by_cases h2 : c = J.length
    · rw [if_pos h2, if_pos h2, withY_row h hy hq, if_neg (by omega), if_pos rfl]
    · rw [if_neg h2, if_neg h2]

theorem piv_free {M : List (List Int)} {n : Nat} (h : MaskOk M n) : (JP (colsF M (intsJ (JP M n))) (JP M n).length).length = (JP M n).length := by
  have hc := h.cols (intsJ (JP M n))
  rw [intsJ_len] at hc
  have hi := hc.inv (JP M n).length
  have hle := asc_le (a := 0) (b := (JP M n).length) hi.asc (fun x hx => ⟨Nat.zero_le _, hi.lt x hx⟩)
  rcases Nat.lt_or_ge (JP (colsF M (intsJ (JP M n))) (JP M n).length).length (JP M n).length with hlt | hge
  · exfalso
    -- a free one
    have : ∃ f, f < (JP M n).length ∧ f ∉ JP (colsF M (intsJ (JP M n))) (JP M n).length := by
      refine Classical.byContradiction fun hno => ?_
      have hall : ∀ f, f < (JP M n).length → f ∈ JP (colsF M (intsJ (JP M n))) (JP M n).length := fun f hf => Classical.byContradiction fun h' => hno ⟨f, hf, h'⟩
      have := asc_eq hi.asc (List.pairwise_lt_range) (fun x => ⟨fun hx => List.mem_range.2 (hi.lt x hx), fun hx => hall x (List.mem_range.1 hx)⟩)
      have hlt' : (JP (colsF M (intsJ (JP M n))) (JP M n).length).length = (List.range (JP M n).length).length := congrArg List.length this
      rw [List.length_range] at hlt'
      omega
    obtain ⟨f, hf, hfJ⟩ := this
    obtain ⟨t, ht, _, htf, _, _⟩ := hc.raw hf hfJ
    have hk := hc.raw_ker hf hfJ
    generalize rawP (RP (colsF M (intsJ (JP M n))) (JP M n).length) (JP (colsF M (intsJ (JP M n))) (JP M n).length) (JP M n).length f = l at htf hk
    -- the row with the pivot f
    have hsp := h.span.1 (RB.sp (K := (JP M n).length) (R := rowv (RP M n)) hf)
    have hp : Sp (RB (colsF M (intsJ (JP M n))).length (rowv (colsF M (intsJ (JP M n))))) (pickV (intsJ (JP M n)) (rowv (RP M n) f)) := by
      rw [colsF_len]
      refine Sp.map (pickV (intsJ (JP M n))) (by funext c; unfold pickV; split <;> rfl) (fun u v => by funext c; unfold pickV; split <;> simp) (fun k u => by funext c; unfold pickV; split <;> simp) ?_ hsp
      rintro v ⟨q, hq, rfl⟩
      rw [← colsF_rowv]; exact RB.sp hq
    have hd := dotS_sp (h := vec l) (n := (JP M n).length) (by rintro u ⟨q, hq, rfl⟩; exact hk q hq) hp
    unfold dotS at hd
    rw [sm_single hf (fun c hc hne => by rw [pick_lt hc, (h.inv n).ech.red.off f hf c hc (fun e => hne e.symm)]; simp), pick_lt hf, htf] at hd
    have hpos : 0 < rowv (RP M n) f (jf (JP M n) f) := ((h.inv n).pp f hf).2
    rcases Int.mul_eq_zero.1 hd with e | e <;> omega
  · exact Nat.le_antisymm (by have : (JP (colsF M (intsJ (JP M n))) (JP M n).length).length ≤ (JP M n).length - 0 := hle; omega) hge

theorem ratioF_self {a b : Int} (hb : 0 < b) : ratioF (ratioF a b).1 (ratioF a b).2 = ratioF a b := by
  obtain ⟨c1, _, _, _, c5⟩ := ratioF_low (a := a) hb
  exact ratioF_eq c1 hb c5

theorem any_solve {M : List (List Int)} {n : Nat} (h : MaskOk M n) {y : List Int} (hy : y.length = M.length) (hmil : ∀ v ∈ y, -1000000 ≤ v ∧ v ≤ 1000000) (hn : n ∉ (rRed (withY M y) (n + 1)).piv) :
    solveP (withY (colsF M (intsJ (JP M n))) y) (JP M n).length = ((List.range (JP M n).length).map (fun k => ratAt (solvedR (withY M y) n).1 (jf (JP M n) k)), 0) := by
  have hY := h.addY hy (Y := 1000000) (by decide) (by simpa using hmil)
  obtain ⟨_, hl, hp, ho⟩ := solved_shape hY hn
  obtain ⟨_, hpos⟩ := solved_valid hY (Nat.le_refl _) hn
  have hpiv := withY_piv h hy hY
  have hfree := piv_free h
  have hJn : ∀ j ∈ JP M n, j < n := fun j hj => (h.inv n).lt j hj
  have hc := h.cols (intsJ (JP M n))
  have hyc : y.length = (colsF M (intsJ (JP M n))).length := by rw [colsF_len]; exact hy
  have hcY := hc.addY hyc (Y := 1000000) (by decide) (by simpa using hmil)
  rw [intsJ_len] at hc hcY
  have hpivc := withY_piv hc hyc hcY
  have hi := pRed_inv (withY M y) hY.wid n (fun j hj q => rowv_le (by decide) (fun r hr => hY.one r hr j hj) q)
  have hic := pRed_inv (withY (colsF M (intsJ (JP M n))) y) hcY.wid (JP M n).length (fun j hj q => rowv_le (by decide) (fun r hr => hcY.one r hr j hj) q)
  have hden : denP (solvedR (withY M y) n).1 n ≠ 0 := denP_ne (fun k => by have := hpos k; omega) n
  have hnum := fun i (hi : i < n) => numP_eq (x := (solvedR (withY M y) n).1) (W := n) hi
  rw [hpiv] at hp ho
  -- all of the columns' span is 0 with the values
  have hphi : ∀ u, Sp (RB (withY (colsF M (intsJ (JP M n))) y).length (rowv (withY (colsF M (intsJ (JP M n))) y))) u →
      dotS u (fun c => if c < (JP M n).length then numP (solvedR (withY M y) n).1 n (jf (JP M n) c) else -denP (solvedR (withY M y) n).1 n) ((JP M n).length + 1) = 0 := by
    intro u hu
    refine dotS_sp ?_ hu
    rintro v ⟨q, hq, rfl⟩
    rw [withY_len hyc, colsF_len] at hq
    rw [pick_row h hy hJn hq]
    have hsp := (hi.span (fun q h1 h2 c => sys_zero hY hn h1 h2 c)).2 (RB.sp (K := (withY M y).length) (R := rowv (withY M y)) (by rw [withY_len hy]; exact hq))
    refine dotS_sp (B := fun w => ∃ k, k < (JP M n).length ∧ w = pickY (JP M n) n (rowv (pRed (withY M y) n).1 k)) ?_ (pickY_sp (B := RB (pRed (withY M y) n).2.length (rowv (pRed (withY M y) n).1)) ?_ hsp)
    · rintro v ⟨k, hk, rfl⟩
      have hk' : k < (pRed (withY M y) n).2.length := by rw [hpiv]; exact hk
      unfold dotS
      rw [sm_succ, sm_single hk (fun c hc hne => ?_)]
      · simp only [if_pos hk, Nat.lt_irrefl, if_false]
        have e1 := hnum _ (hJn _ (jf_mem hk))
        rw [hp k hk] at e1
        have hb := (hi.pp k hk').2
        rw [hpiv] at hb
        obtain ⟨c1, _, _, _, c5⟩ := ratioF_low (a := rowv (pRed (withY M y) n).1 k n) hb
        have x1 : pickY (JP M n) n (rowv (pRed (withY M y) n).1 k) k = rowv (pRed (withY M y) n).1 k (jf (JP M n) k) := by unfold pickY; rw [if_pos hk]
        have x2 : pickY (JP M n) n (rowv (pRed (withY M y) n).1 k) (JP M n).length = rowv (pRed (withY M y) n).1 k n := by unfold pickY; rw [if_neg (by omega), if_pos rfl]
        rw [x1, x2]
        generalize rowv (pRed (withY M y) n).1 k (jf (JP M n) k) = b at *
        generalize rowv (pRed (withY M y) n).1 k n = a at *
        generalize ratioF a b = p at *
        obtain ⟨b1, b2⟩ := p
        dsimp only at *
        generalize numP (solvedR (withY M y) n).1 n (jf (JP M n) k) = N at *
        generalize denP (solvedR (withY M y) n).1 n = D at *
        have e2 : b2 * (b * N) = b2 * (a * D) := by
          have : b2 * (b * N) = b * (N * b2) := by grind
          rw [this, e1]
          have : b * (b1 * D) = (b1 * b) * D := by grind
          rw [this, c5]; grind
        have e3 := Int.eq_of_mul_eq_mul_left (show b2 ≠ 0 by omega) e2
        rw [e3, Int.mul_neg]; omega
      · have hq' : c < (pRed (withY M y) n).2.length := by rw [hpiv]; exact hc
        have := hi.ech.red.off k hk' c hq' (fun e => hne e.symm)
        rw [hpiv] at this
        unfold pickY
        rw [if_pos hc, this]; simp
    · rintro v ⟨k, hk, rfl⟩
      exact .of ⟨k, by rw [← hpiv]; exact hk, rfl⟩
  have hlen : (pRed (withY (colsF M (intsJ (JP M n))) y) (JP M n).length).2.length = (JP M n).length := by rw [hpivc]; exact hfree
  have hJr := asc_full (a := 0) hic.asc (fun x hx => ⟨Nat.zero_le _, by have := hic.lt x hx; omega⟩) hlen
  have hjf : ∀ k, k < (JP M n).length → jf (pRed (withY (colsF M (intsJ (JP M n))) y) (JP M n).length).2 k = k := by
    intro k hk
    unfold jf
    rw [hJr, List.getElem?_range' hk]; simp
  have hrl := pRed_len (withY (colsF M (intsJ (JP M n))) y) (JP M n).length
  unfold solveP
  simp only []
  have hno : ¬ ((pRed (withY (colsF M (intsJ (JP M n))) y) (JP M n).length).1.drop (pRed (withY (colsF M (intsJ (JP M n))) y) (JP M n).length).2.length).any (nz (JP M n).length) = true := by
    intro hany
    obtain ⟨r, hr, hz⟩ := List.any_eq_true.1 hany
    obtain ⟨i, hilt, rfl⟩ := List.mem_iff_getElem.1 hr
    rw [List.getElem_drop] at hz
    rw [List.length_drop] at hilt
    have hsp := hic.sp1 ((pRed (withY (colsF M (intsJ (JP M n))) y) (JP M n).length).2.length + i) (by omega)
    have hd := hphi _ hsp
    unfold dotS at hd
    rw [sm_succ, sm_congr (g := fun _ => 0) (fun c hc => by rw [hic.zero _ (Nat.le_add_right _ _) (by omega) c hc]; simp), sm_zero] at hd
    simp only [Nat.lt_irrefl, if_false] at hd
    rw [rowv_lt (by omega)] at hd
    have hz' : vec ((pRed (withY (colsF M (intsJ (JP M n))) y) (JP M n).length).1[(pRed (withY (colsF M (intsJ (JP M n))) y) (JP M n).length).2.length + i]'(by omega)) (JP M n).length ≠ 0 := by simpa [nz] using hz
    have hd' := hd
    rw [Int.zero_add] at hd'
    rcases Int.mul_eq_zero.1 hd' with e | e
    · exact hz' e
    · omega
  rw [if_neg hno, if_neg (by omega)]
  congr 1
  refine List.map_congr_left fun k hk => ?_
  have hk := List.mem_range.1 hk
  have hkc : k < (pRed (withY (colsF M (intsJ (JP M n))) y) (JP M n).length).2.length := by omega
  have hb := (hic.pp k hkc).2
  have hsp := hic.sp1 k (by have := hic.K_le; omega)
  have hd := hphi _ hsp
  unfold dotS at hd
  rw [sm_succ, sm_single hk (fun c hc hne => by
    have := hic.ech.red.off k hkc c (by omega) (fun e => hne e.symm)
    rw [hjf c hc] at this
    rw [this]; simp)] at hd
  simp only [if_pos hk, Nat.lt_irrefl, if_false] at hd
  rw [hjf k hk] at hb ⊢
  have e1 := hnum _ (hJn _ (jf_mem hk))
  have hx2 := hpos (jf (JP M n) k)
  have hself : ratioF (ratAt (solvedR (withY M y) n).1 (jf (JP M n) k)).1 (ratAt (solvedR (withY M y) n).1 (jf (JP M n) k)).2 = ratAt (solvedR (withY M y) n).1 (jf (JP M n) k) := by
    rw [hp k hk]
    have hb := (hi.pp k (by rw [hpiv]; exact hk)).2
    rw [hpiv] at hb
    exact ratioF_self hb
  show ofF (rowv (pRed (withY (colsF M (intsJ (JP M n))) y) (JP M n).length).1 k (JP M n).length) (rowv (pRed (withY (colsF M (intsJ (JP M n))) y) (JP M n).length).1 k k) = _
  rw [ofF_pos hb, ← hself]
  refine ratioF_eq hb hx2 ?_
  generalize rowv (pRed (withY (colsF M (intsJ (JP M n))) y) (JP M n).length).1 k (JP M n).length = a at *
  generalize rowv (pRed (withY (colsF M (intsJ (JP M n))) y) (JP M n).length).1 k k = b at *
  generalize numP (solvedR (withY M y) n).1 n (jf (JP M n) k) = N at *
  generalize denP (solvedR (withY M y) n).1 n = D at *
  generalize ratAt (solvedR (withY M y) n).1 (jf (JP M n) k) = p at *
  obtain ⟨p1, p2⟩ := p
  dsimp only at *
  -- b N = a D, N p2 = p1 D
  have e2 : D * (a * p2) = D * (p1 * b) := by
    have h1 : b * N = a * D := by rw [Int.mul_neg] at hd; omega
    have : D * (a * p2) = (a * D) * p2 := by grind
    rw [this, ← h1]
    have : b * N * p2 = b * (N * p2) := by grind
    rw [this, e1]; grind
  exact Int.eq_of_mul_eq_mul_left hden e2
end Go.Proofs.YtfipebkhomppmaaGreat

namespace Go.Proofs.YtfipebkhomppmaaGreat
set_option linter.unusedVariables false

def spreadR (n : Nat) (J : List Int) (v : List Rt) : List Rt := (List.range J.length).foldl (fun out i => out.set (J[i]?.getD 0).toNat (v[i]?.getD (0, 0))) (List.replicate n (0, 1))
def spreadTo (n : Nat) (J : List Int) (v : List Rt) (k : Nat) : List Rt := (List.range k).foldl (fun out i => out.set (J[i]?.getD 0).toNat (v[i]?.getD (0, 0))) (List.replicate n (0, 1))
theorem spreadTo_succ (n : Nat) (J : List Int) (v : List Rt) (k : Nat) : spreadTo n J v (k + 1) = (spreadTo n J v k).set (J[k]?.getD 0).toNat (v[k]?.getD (0, 0)) := by
  unfold spreadTo; rw [List.range_succ, List.foldl_append]; rfl
theorem spreadTo_len (n : Nat) (J : List Int) (v : List Rt) (k : Nat) : (spreadTo n J v k).length = n := by
  unfold spreadTo; rw [foldl_set_len (fun i => v[i]?.getD (0, 0)) (fun i => (J[i]?.getD 0).toNat)]; simp

theorem mil_int {y : List Int} (h : milB y = true) : ∀ v ∈ y, -1000000 ≤ v ∧ v ≤ 1000000 := by
  intro v hv
  have := mil_bnd6 h v hv
  omega
theorem no_conf {M : Mask} {y : List Int} (hok : okM M = true) (hy : y.length = M.length) (hc : conflictF M y = none) : colsM M ∉ (rRed (withY M y) (colsM M + 1)).piv := by
  obtain ⟨hM, _⟩ := okM_ok hok
  exact fun h => (conf_none_iff hok).1 hc ((hM.conf_iff hy).2 h)

theorem spread_solved {M : Mask} {y : List Int} (h0 : rdE M y = 0) (hc : conflictF M y = none) :
    solveV M (intsJ (JP M (colsM M))) y = ((List.range (JP M (colsM M)).length).map (fun k => ratAt (solvedR (withY M y) (colsM M)).1 (jf (JP M (colsM M)) k)), 0) ∧
    spreadR (colsM M) (intsJ (JP M (colsM M))) ((List.range (JP M (colsM M)).length).map (fun k => ratAt (solvedR (withY M y) (colsM M)).1 (jf (JP M (colsM M)) k))) = (solvedR (withY M y) (colsM M)).1 := by
  obtain ⟨hok, hyl, hmil⟩ := rd_ok h0
  obtain ⟨hM, _⟩ := okM_ok hok
  have hn := no_conf hok hyl hc
  have hY := hM.addY hyl (Y := 1000000) (by decide) (mil_bnd6 hmil)
  have hpiv := withY_piv hM hyl hY
  obtain ⟨_, hl, hp, ho⟩ := solved_shape hY hn
  have hasc := (hM.inv (colsM M)).asc
  have hlt := (hM.inv (colsM M)).lt
  have hech := (hM.inv (colsM M)).ech.asc
  refine ⟨?_, ?_⟩
  · have hck : checkE M y (intsJ (JP M (colsM M))) = 0 := by
      unfold checkE
      rw [if_pos hok, if_pos hyl, if_pos hmil]
      unfold pixE namedE
      rw [if_pos hok, pair_asc (by
        unfold intsJ
        rw [List.pairwise_map]
        exact hasc.imp fun h => by omega), if_pos rfl, if_pos]
      refine List.all_eq_true.2 fun p hp => ?_
      unfold intsJ at hp
      obtain ⟨j, hj, rfl⟩ := List.mem_map.1 hp
      have := hlt j hj
      unfold inB
      simp; omega
    unfold solveV
    rw [if_pos hck, intsJ_len]
    exact any_solve hM hyl (mil_int hmil) hn
  · unfold spreadR
    rw [intsJ_len]
    refine List.ext_getElem? fun j => ?_
    have hlen : ((List.range (JP M (colsM M)).length).foldl (fun out i => out.set ((intsJ (JP M (colsM M)))[i]?.getD 0).toNat (((List.range (JP M (colsM M)).length).map (fun k => ratAt (solvedR (withY M y) (colsM M)).1 (jf (JP M (colsM M)) k)))[i]?.getD (0, 0))) (List.replicate (colsM M) ((0 : Int), (1 : Int)))).length = colsM M := by
      rw [foldl_set_len (fun i => ((List.range (JP M (colsM M)).length).map (fun k => ratAt (solvedR (withY M y) (colsM M)).1 (jf (JP M (colsM M)) k)))[i]?.getD (0, 0)) (fun i => ((intsJ (JP M (colsM M)))[i]?.getD 0).toNat)]; simp
    rcases Nat.lt_or_ge j (colsM M) with hj | hj
    · have hX : (solvedR (withY M y) (colsM M)).1[j]? = some (ratAt (solvedR (withY M y) (colsM M)).1 j) := by
        unfold ratAt; rw [List.getElem?_eq_getElem (by omega)]; rfl
      rw [hX]
      have hgk : ∀ k, k < (JP M (colsM M)).length → ((intsJ (JP M (colsM M)))[k]?.getD 0).toNat = jf (JP M (colsM M)) k := fun k hk => by rw [intsJ_get hk]; simp
      by_cases hm : j ∈ JP M (colsM M)
      · obtain ⟨k, hk, rfl⟩ := jf_of_mem hm
        have := foldl_set_at (fun i => ((List.range (JP M (colsM M)).length).map (fun k => ratAt (solvedR (withY M y) (colsM M)).1 (jf (JP M (colsM M)) k)))[i]?.getD (0, 0)) (fun i => ((intsJ (JP M (colsM M)))[i]?.getD 0).toNat) (List.replicate (colsM M) ((0 : Int), (1 : Int))) (JP M (colsM M)).length k hk
          (by rw [hgk k hk, List.length_replicate]; exact hj) (fun a b h1 h2 => by rw [hgk a (by omega), hgk b h2]; exact Nat.ne_of_lt (hech a b h1 h2))
        rw [hgk k hk] at this
        rw [this]
        simp [hk]
      · rw [foldl_set_other (fun i => ((List.range (JP M (colsM M)).length).map (fun k => ratAt (solvedR (withY M y) (colsM M)).1 (jf (JP M (colsM M)) k)))[i]?.getD (0, 0)) (fun i => ((intsJ (JP M (colsM M)))[i]?.getD 0).toNat) _ _ j (fun a ha e => hm (by rw [hgk a ha] at e; rw [← e]; exact jf_mem ha))]
        rw [ho j (by rw [hpiv]; exact hm)]
        simp [hj]
    · exact (List.getElem?_eq_none (Nat.le_trans (Nat.le_of_eq hlen) hj)).trans (List.getElem?_eq_none (by omega)).symm

theorem any_makes {M : Mask} {y : List Int} (h0 : rdE M y = 0) (hc : conflictF M y = none) : makesB M (solvedR (withY M y) (colsM M)).1 y = true := by
  obtain ⟨hok, hyl, hmil⟩ := rd_ok h0
  obtain ⟨hM, _⟩ := okM_ok hok
  have hn := no_conf hok hyl hc
  have hY := hM.addY hyl (Y := 1000000) (by decide) (mil_bnd6 hmil)
  obtain ⟨_, hl, _, _⟩ := solved_shape hY hn
  obtain ⟨hv, hpos⟩ := solved_valid hY (Nat.le_refl _) hn
  have hden : denP (solvedR (withY M y) (colsM M)).1 (colsM M) ≠ 0 := denP_ne (fun k => by have := hpos k; omega) _
  refine mk_yes h0 hl hv fun i hi => ?_
  have h1 := sumR_val (r := M[i]?.getD []) (x := (solvedR (withY M y) (colsM M)).1) (W := colsM M) _ (Nat.le_refl _)
  have h2 := solved_row hY (Nat.le_refl _) hn (RB.sp (K := (withY M y).length) (R := rowv (withY M y)) (k := i) (by rw [withY_len hyl]; exact hi))
  rw [withY_row hM hyl hi, if_neg (Nat.lt_irrefl _), if_pos rfl] at h2
  have e : sm (fun j => vec (M[i]?.getD []) j * numP (solvedR (withY M y) (colsM M)).1 (colsM M) j) (colsM M) = sm (fun j => rowv (withY M y) i j * numP (solvedR (withY M y) (colsM M)).1 (colsM M) j) (colsM M) :=
    sm_congr fun j hj => by rw [withY_row hM hyl hi, if_pos hj]; rfl
  rw [e, h2] at h1
  refine Int.eq_of_mul_eq_mul_right hden ?_
  rw [h1, Int.mul_assoc]

theorem conf_deny {M : Mask} {y z : List Int} (h0 : rdE M y = 0) (hc : conflictF M y = some z) : denyB M y z = true ∧ z.length = M.length := by
  obtain ⟨hok, hyl, hmil⟩ := rd_ok h0
  obtain ⟨hM, _⟩ := okM_ok hok
  unfold conflictF at hc
  rw [Option.map_eq_some_iff] at hc
  obtain ⟨q, hq, rfl⟩ := hc
  have h1 := List.mem_of_find?_eq_some hq
  have h2 := List.find?_some hq
  rw [List.mem_range'_1] at h1
  have hqM : q < M.length := by omega
  obtain ⟨hzl, hzb⟩ := confZ_len hok hqM
  refine ⟨?_, hzl⟩
  have hw := (hM.einv (colsM M)).sp1 q hqM
  have hz : ∀ i, vec (confZ M (colsM M) q) i = wtV (colsM M) (rowv (RE M (colsM M)) q) i := fun i => by unfold confZ; rw [vec_drop]; rfl
  unfold denyB
  rw [decide_eq_true h0, Bool.true_and]
  have hp : preB M (confZ M (colsM M) q) = true := by
    unfold preB
    rw [hok, decide_eq_true hzl]
    simp only [Bool.true_and]
    unfold milB
    refine List.all_eq_true.2 ?_
    exact mem_vec (P := fun n => inB n (-1000000) 1000000 = true) fun c => by have := hzb c; unfold inB; simp; omega
  rw [hp, Bool.true_and]
  have hn : nilB (backF M (colsM M) (confZ M (colsM M) q)) = true := by
    unfold nilB backF
    refine List.all_eq_true.2 fun n hn => ?_
    obtain ⟨j, hj, rfl⟩ := List.mem_map.1 hn
    have hj := List.mem_range.1 hj
    rw [decide_eq_true_eq]
    unfold dotV
    rw [colV_len]
    have := hM.weigh hw hj
    rw [(hM.einv (colsM M)).zero q (by rw [show (pRed (extF M) (colsM M)).2 = JP M (colsM M) from hM.ext_same.1]; exact h1.1) hqM j hj] at this
    rw [this]
    refine sm_congr fun i hi => ?_
    rw [hz i, Int.mul_comm]
    congr 1
    unfold colV rowv
    rw [vec_map_list _ _ hi, List.getElem?_eq_getElem hi]
    rfl
  rw [hn, Bool.true_and]
  simpa using h2
end Go.Proofs.YtfipebkhomppmaaGreat

namespace Go.Proofs.YtfipebkhomppmaaGreat
open Go.RowKit
set_option linter.unusedVariables false

set_option maxRecDepth 100000 in
set_option maxHeartbeats 2000000 in
theorem spread_c (w : World) (W : Nat) (hW1 : 1 ≤ W) (hW : W ≤ 1000) (a a2 : Option Addr) (k cap k2 cap2 : Nat) (l : List Int) (v : List Rt) (hk : l.length = k) (hk2 : v.length = k2) (hle : k ≤ k2) (hm : k ≤ 1000) (H : IntsAt w a l) (H2 : RatsAt w a2 v)
    (hb : ∀ i, i < k → 0 ≤ l[i]?.getD 0 ∧ l[i]?.getD 0 < (W : Int)) :
    Calls Tryz.prog 24 #[.int .i64 W, .slice a k cap, .slice a2 k2 cap2] w fun e w' => ∃ g, e = .returned (.slice (some ⟨g, 0, none⟩) W W) ∧ w.heap.size ≤ g ∧ RatBlk w' g (spreadR W l v) ∧ Below w.heap.size w w' := by
  obtain ⟨wa, hwa⟩ : ∃ wa, wa = w.alloc (.cells #[.int .i64 0, .int .i64 1] 57) := ⟨_, rfl⟩
  have hba : Below w.heap.size w wa := by rw [hwa]; exact (Below.refl _ _).alloc (Nat.le_refl _) _
  have hr1 : RatsAt wa (some ⟨w.heap.size, 0, none⟩) [(0, 1)] := by
    intro j hj
    match j, hj with
    | 0, _ => exact ⟨_, 0, rfl, by rw [hwa]; simp, by rw [hwa, World.cell?_alloc_at _ _ _ _ rfl]; rfl, by rw [hwa, World.cell?_alloc_at _ _ _ _ rfl]; rfl⟩
  have HRP := hid (repeat_c wa (some ⟨w.heap.size, 0, none⟩) 1 (0, 1) hr1 W hW1 hW)
  have HBA := hid hba
  have HI := hid (fun (X : World) (hX : Below w.heap.size w X) => H.below hX)
  have HV := hid (fun (X : World) (hX : Below w.heap.size w X) => H2.below hX)
  have HBD := hid hb
  have HK := hid hk
  have HK2 := hid hk2
  have HT0 := hid (show spreadTo W l v 0 = List.replicate W (0, 1) from rfl)
  have HTS := hid (fun t => spreadTo_succ W l v t)
  have HTL := hid (fun t => spreadTo_len W l v t)
  have HTE := hid (show spreadTo W l v k = spreadR W l v by unfold spreadTo spreadR; rw [hk])
  clear hba hr1 H H2 hb hk hk2
  go_enter Tryz.func24, Tryz.ntmps24
  go_wp2_with fail
  rw [← hwa]
  clear hwa
  go_wp2_with (go_at_call 56; refine HRP.out.mono ?_; rintro e w1 ⟨g, rfl, hg, hrb, hb1⟩; refine Stop.of ?_)
  refine Stop.go ?_
  have HG := hid (show w.heap.size ≤ g from Nat.le_trans HBA.out.size hg)
  have HRB := hid hrb
  have HB1 := hid (chain HBA.out hb1)
  clear hg hrb hb1 HRP HBA
  go_wp2
  go_loopw [16] (fun i wr => ∃ t : Nat, t ≤ k ∧ i = .int .i64 t ∧ RatBlk wr g (spreadTo W l v t) ∧ Below w.heap.size w wr) (fun i _ => k - (intOf i).toNat)
  case atStart => exact ⟨0, Nat.zero_le _, rfl, by rw [HT0.out]; exact HRB.out, HB1.out⟩
  case round =>
    obtain ⟨t, ht, rfl, hrt, hbt⟩ := hrel
    by_cases htl : t < k
    · have htk : t < l.length := by rw [HK.out]; exact htl
      have htv : t < v.length := by rw [HK2.out]; omega
      obtain ⟨b5, o5, rfl, hb5, hc5⟩ := (HI.out wr hbt) t htk
      obtain ⟨b6, o6, rfl, hb6, h60, h61⟩ := (HV.out wr hbt) t htv
      obtain ⟨d1, d2⟩ := HBD.out t htl
      have hts := HTS.out t
      rw [List.getElem?_eq_getElem htv, Option.getD_some] at hts
      obtain ⟨⟨r1, r2⟩, hr⟩ : ∃ r, r = v[t]'htv := ⟨_, rfl⟩
      rw [← hr] at h60 h61 hts
      obtain ⟨p, hp⟩ : ∃ p : Nat, (p : Int) = l[t]?.getD 0 := ⟨(l[t]?.getD 0).toNat, by omega⟩
      rw [← hp] at hc5 d1 d2 hts
      rw [Int.toNat_natCast] at hts
      have hpl : p < (spreadTo W l v t).length := by rw [HTL.out]; omega
      obtain ⟨c0, c1, cf⟩ := hrt.cells hpl
      have f0 := cf (p * 2)
      have f1 := cf (p * 2 + 1)
      have hset := hrt.set hpl r1 r2
      rw [← hts] at hset
      have HSET := hid hset
      have HBE := hid (show Below w.heap.size w ((wr.setCell ⟨g, p * 2, none⟩ (.int .i64 r1)).setCell ⟨g, p * 2 + 1, none⟩ (.int .i64 r2)) from below_set (below_set hbt HG.out _ _) HG.out _ _)
      have hgl := hrt.lt
      have i1 : (t : Int) < (k : Int) := by omega
      have i2 : (t : Int) < (k2 : Int) := by omega
      have i3 : (p : Int) < (W : Int) := d2
      obtain ⟨z0, k0⟩ : ∃ z, wr.cell? ⟨g, p * 2, none⟩ = some (.int .i64 z) := ⟨_, c0⟩
      obtain ⟨z1, k1⟩ : ∃ z, wr.cell? ⟨g, p * 2 + 1, none⟩ = some (.int .i64 z) := ⟨_, c1⟩
      clear hset hts hr hp hrt hbt cf d1 d2 c0 c1 hpl
      go_wp2
      refine ⟨⟨t + 1, by omega, by go_num, HSET.out, HBE.out⟩, by simp [intOf]; omega⟩
    · obtain rfl : t = k := by omega
      have hni : ¬ (t : Int) < (t : Int) := by omega
      rw [HTE.out] at hrt
      go_wp2
      go_ret
      exact ⟨g, rfl, HG.out, hrt, hbt⟩

def LConfPost (M : Mask) (y : List Int) (n : Nat) (e : Ending) (w' : World) : Prop :=
  (rdE M y ≠ 0 ∧ e = .returned (.tuple #[.slice none 0 0, .int .i64 (rdE M y)])) ∨ (rdE M y = 0 ∧ conflictF M y = none ∧ e = .returned (.tuple #[.slice none 0 0, .int .i64 8])) ∨
    (rdE M y = 0 ∧ ∃ z a cap, conflictF M y = some z ∧ e = .returned (.tuple #[.slice (some a) n cap, .int .i64 0]) ∧ IntsAt w' (some a) z)

set_option maxHeartbeats 1000000 in
theorem lconflict_c (w : World) (a a2 : Option Addr) (n cap n2 cap2 : Nat) (M : Mask) (y : List Int) (hn : M.length = n) (hn2 : y.length = n2) (hm : n ≤ maxLen) (hm2 : n2 ≤ maxLen) (H : RowsAt w a M) (H2 : IntsAt w a2 y) :
    Calls Tryz.prog 12 #[.slice a n cap, .slice a2 n2 cap2] w fun e w' => LConfPost M y n e w' ∧ Below w.heap.size w w' := by
  have HC := hid (check_c w a a2 none n cap n2 cap2 0 0 M y [] hn hn2 rfl hm hm2 (by decide) H H2 (fun j hj => by simp at hj))
  rw [← rd_check] at HC
  by_cases h0 : rdE M y = 0
  · obtain ⟨hok, hyl, hmil⟩ := rd_ok h0
    obtain rfl : n2 = n := by omega
    have HCF := hid (fun (X : World) (hX : Below w.heap.size w X) => conflict_c X a a2 n2 cap cap2 M y hn hn2 (H.below hX) (H2.below hX) hok hmil)
    have H1 := hid (fun (hc : conflictF M y = none) (X : World) => show LConfPost M y n2 (.returned (.tuple #[.slice none 0 0, .int .i64 8])) X from .inr (.inl ⟨h0, hc, rfl⟩))
    have H2' := hid (fun (z : List Int) (a : Addr) (cap : Nat) (hc : conflictF M y = some z) (X : World) (hi : IntsAt X (some a) z) => show LConfPost M y n2 (.returned (.tuple #[.slice (some a) n2 cap, .int .i64 0])) X from .inr (.inr ⟨h0, z, a, cap, hc, rfl, hi⟩))
    rw [h0] at HC
    have heq := fun (w : World) (a : Option Addr) (n c : Nat) => Lib.run_eql_slice_nil (P := Tryz.prog) w 24 3 a n c 0 0 Tryz.underlying24
    clear hn hn2 H H2 hok hyl hmil h0
    go_enter Tryz.func12, Tryz.ntmps12
    go_wp2_with (go_at_call 20; refine HC.out.mono ?_; rintro e w1 ⟨rfl, hb1⟩; refine Stop.of ?_)
    refine Stop.go ?_
    have HB1 := hid hb1
    clear hb1 HC
    go_wp2_with (go_at_call 21; refine (HCF.out _ HB1.out).mono ?_; rintro e w2 ⟨hb2, hp⟩; rcases hp with ⟨hc, rfl⟩ | ⟨z, za, zc, hc, rfl, hi⟩; all_goals refine Stop.of ?_)
    · refine Stop.go ?_
      have HB2 := hid (chain HB1.out hb2)
      have HX := hid (H1.out hc)
      clear hc hb2 H1 H2' HCF
      go_wp2
      go_ret2
      first | exact ⟨HX.out _, HB2.out⟩ | exact ⟨_, rfl, HX.out _, HB2.out⟩
    · refine Stop.go ?_
      have HB2 := hid (chain HB1.out hb2)
      have HX := hid (H2'.out z za zc hc w2 hi)
      clear hc hb2 H1 H2' HCF hi
      go_wp2
      go_ret2
      first | exact ⟨HX.out, HB2.out⟩ | exact ⟨_, rfl, HX.out, HB2.out⟩
  · have H1 := hid (fun (X : World) => show LConfPost M y n (.returned (.tuple #[.slice none 0 0, .int .i64 (rdE M y)])) X from .inl ⟨h0, rfl⟩)
    obtain ⟨E, hE⟩ : ∃ E, E = rdE M y := ⟨_, rfl⟩
    rw [← hE] at HC h0 H1
    have hpb : (E != 0) = true := by simpa using h0
    clear hn hn2 H H2 hE
    go_enter Tryz.func12, Tryz.ntmps12
    go_wp2_with (go_at_call 20; refine HC.out.mono ?_; rintro e w1 ⟨rfl, hb1⟩)
    go_ret2
    first | exact ⟨H1.out _, hb1⟩ | exact ⟨_, rfl, H1.out _, hb1⟩

set_option maxHeartbeats 1000000 in
theorem r3Possible_c (w : World) (a a2 : Option Addr) (n cap n2 cap2 : Nat) (M : Mask) (y : List Int) (hn : M.length = n) (hn2 : y.length = n2) (hm : n ≤ maxLen) (hm2 : n2 ≤ maxLen) (H : RowsAt w a M) (H2 : IntsAt w a2 y) :
    Calls Tryz.prog 8 #[.slice a n cap, .slice a2 n2 cap2] w fun e w' => e = .returned (.tuple #[.bool (possV M y).1, .int .i64 (possV M y).2]) ∧ Below w.heap.size w w' := by
  have HA := hid (r3Any_c w a a2 n cap n2 cap2 M y hn hn2 hm hm2 H H2)
  have hv : possV M y = if (anyV M y).2 = 10 then (false, 0) else (decide ((anyV M y).2 = 0), (anyV M y).2) := by
    unfold possV anyV
    by_cases h0 : rdE M y = 0
    · obtain ⟨hok, hyl, _⟩ := rd_ok h0
      rw [if_pos h0, if_pos h0, solved_conf hok hyl]
      cases conflictF M y <;> simp
    · have h2 : rdE M y ≠ 10 := by
        rw [rd_check]
        unfold checkE pixE namedE
        split <;> (try split) <;> (try split) <;> (try split) <;> (try split) <;> decide
      rw [if_neg h0, if_neg h0]
      simp [h0, h2]
  obtain ⟨⟨A1, A2⟩, hA⟩ : ∃ A, A = anyV M y := ⟨_, rfl⟩
  rw [← hA] at HA hv
  simp only [] at HA hv
  rw [hv]
  clear hn hn2 H H2 hA hv
  by_cases h10 : A2 = 10
  · subst h10
    rw [if_pos rfl]
    go_enter Tryz.func8, Tryz.ntmps8
    go_wp2_with (go_at_call 10; refine HA.out.mono ?_; rintro e w1 ⟨v, base, rfl, _, _, hb1⟩; refine Stop.of ?_)
    refine Stop.go ?_
    go_wp2
    go_ret2
    exact ⟨rfl, hb1⟩
  · have hb0 : (A2 == 10) = false := by simpa using h10
    rw [if_neg h10]
    have hb2 : decide (A2 = 0) = (A2 == 0) := by rw [Bool.eq_iff_iff]; simp
    rw [hb2]
    clear hb2
    go_enter Tryz.func8, Tryz.ntmps8
    go_wp2_with (go_at_call 10; refine HA.out.mono ?_; rintro e w1 ⟨v, base, rfl, _, _, hb1⟩; refine Stop.of ?_)
    refine Stop.go ?_
    go_wp2
    go_ret2
    exact ⟨rfl, hb1⟩

set_option maxRecDepth 100000 in
set_option maxHeartbeats 4000000 in
theorem lany_c (w : World) (a a2 : Option Addr) (n cap n2 cap2 : Nat) (M : Mask) (y : List Int) (hn : M.length = n) (hn2 : y.length = n2) (hm : n ≤ maxLen) (hm2 : n2 ≤ maxLen) (H : RowsAt w a M) (H2 : IntsAt w a2 y) :
    Calls Tryz.prog 9 #[.slice a n cap, .slice a2 n2 cap2] w fun e w' => ∃ v base, e = .returned (.tuple #[v, .int .i64 (anyV M y).2]) ∧ w.heap.size ≤ base ∧ RatsO w' base v (anyV M y).1 ∧ Below w.heap.size w w' := by
  have HC := hid (check_c w a a2 none n cap n2 cap2 0 0 M y [] hn hn2 rfl hm hm2 (by decide) H H2 (fun j hj => by simp at hj))
  rw [← rd_check] at HC
  by_cases h0 : rdE M y = 0
  rotate_left
  · have hav : anyV M y = ([], rdE M y) := by unfold anyV; rw [if_neg h0]
    rw [hav]
    obtain ⟨E, hE⟩ : ∃ E, E = rdE M y := ⟨_, rfl⟩
    rw [← hE] at HC h0 ⊢
    have hpb : (E != 0) = true := by simpa using h0
    clear hn hn2 H H2 hav hE
    go_enter Tryz.func9, Tryz.ntmps9
    go_wp2_with (go_at_call 20; refine HC.out.mono ?_; rintro e w1 ⟨rfl, hb1⟩)
    go_ret2
    exact ⟨.slice none 0 0, w.heap.size, rfl, Nat.le_refl _, RatsO.nil _ _, hb1⟩
  obtain ⟨hok, hyl, hmil⟩ := rd_ok h0
  obtain ⟨hM, h1, h6, hc1, hc10⟩ := okM_ok hok
  obtain rfl : n2 = n := by omega
  have hav : anyV M y = (if (conflictF M y).isNone = true then ((solvedR (withY M y) (colsM M)).1, 0) else ([], 10)) := by unfold anyV; rw [if_pos h0, solved_conf hok hyl]
  have HCF := hid (fun (X : World) (hX : Below w.heap.size w X) => conflict_c X a a2 n2 cap cap2 M y hn hn2 (H.below hX) (H2.below hX) hok hmil)
  have HSE := hid (fun (X : World) (hX : Below w.heap.size w X) => seen_c X a n2 cap M hn (H.below hX) hok)
  have hKW : (JP M (colsM M)).length ≤ colsM M := by
    have := asc_le (a := 0) (b := colsM M) (hM.inv (colsM M)).asc (fun x hx => ⟨Nat.zero_le _, (hM.inv (colsM M)).lt x hx⟩)
    exact this
  have hJlt : ∀ k, k < (JP M (colsM M)).length → jf (JP M (colsM M)) k < colsM M := fun k hk => (hM.inv (colsM M)).lt _ (jf_mem hk)
  have HSO := hid (fun (X : World) (hX : Below w.heap.size w X) (ja : Option Addr) (jc : Nat) (hI : IntsAt X ja (intsJ (JP M (colsM M)))) => solve_c X a ja a2 n2 cap (JP M (colsM M)).length jc n2 cap2 M (intsJ (JP M (colsM M))) y hn (intsJ_len _) hn2 hm (by have : (10 : Nat) ≤ maxLen := (by decide); omega) hm2 (H.below hX) hI (H2.below hX))
  have HSP := hid (fun (hc : conflictF M y = none) => spread_solved h0 hc)
  obtain ⟨b, off, ra, rc, rfl, hb, hc⟩ := rows_head H (by omega)
  have HCC := hid (fun (X : World) (hX : Below w.heap.size w X) => show X.cell? ⟨b, off, none⟩ = some (.slice ra (colsM M) rc) from (hX.cell (p := ⟨b, off, none⟩) hb).trans hc)
  have i0 : (0 : Int) < (n2 : Int) := by omega
  obtain ⟨⟨A1, A2⟩, hA⟩ : ∃ A, A = anyV M y := ⟨_, rfl⟩
  rw [← hA] at hav ⊢
  have HAV := hid hav
  have HBJ := hid (show ∀ i, i < (JP M (colsM M)).length → 0 ≤ (intsJ (JP M (colsM M)))[i]?.getD 0 ∧ (intsJ (JP M (colsM M)))[i]?.getD 0 < (colsM M : Int) from fun i hi => by
    have := hJlt i hi
    rw [intsJ_get hi, Option.getD_some]; omega)
  have HJL := hid (intsJ_len (JP M (colsM M)))
  rw [h0] at HC
  obtain ⟨W, hW⟩ : ∃ W, W = colsM M := ⟨_, rfl⟩
  rw [← hW] at HSE HSO HSP HCC hc1 hc10 hKW HAV HBJ HJL
  obtain ⟨J, hJ⟩ : ∃ J, J = JP M W := ⟨_, rfl⟩
  rw [← hJ] at HSE HSO HSP hKW HBJ HJL
  obtain ⟨K, hK⟩ : ∃ K, K = J.length := ⟨_, rfl⟩
  rw [← hK] at HSE HSO HSP hKW HBJ HJL
  obtain ⟨X1, hX1⟩ : ∃ X, X = (solvedR (withY M y) W).1 := ⟨_, rfl⟩
  rw [← hX1] at HSP HAV
  simp only [] at HAV ⊢
  clear hn hn2 H H2 hok hyl hmil hM h1 h6 hav hA h0 hJlt hb hc hW hJ hK hX1
  have hneq := fun (w : World) (a : Option Addr) (n c : Nat) => run_neq_slice_nil_any (P := Tryz.prog) w 24 3 a n c 0 0 Tryz.underlying24
  go_enter Tryz.func9, Tryz.ntmps9
  go_wp2_with (go_at_call 20; refine HC.out.mono ?_; rintro e w1 ⟨rfl, hb1⟩; refine Stop.of ?_)
  refine Stop.go ?_
  have HB1 := hid hb1
  clear hb1 HC
  go_wp2_with (go_at_call 21; refine (HCF.out _ HB1.out).mono ?_; rintro e w2 ⟨hb2, hp⟩; rcases hp with ⟨hc, rfl⟩ | ⟨z, za, zc, hc, rfl, hi⟩; all_goals refine Stop.of ?_)
  · refine Stop.go ?_
    have HB2 := hid (chain HB1.out hb2)
    obtain ⟨hs1, hs2⟩ := HSP.out hc
    have hx : (A1, A2) = (X1, (0 : Int)) := HAV.out.trans (by rw [hc]; rfl)
    obtain ⟨rfl, rfl⟩ := Prod.mk.inj hx
    clear hx
    obtain ⟨vals, hvals⟩ : ∃ v, v = (List.range K).map (fun k => ratAt A1 (jf J k)) := ⟨_, rfl⟩
    rw [← hvals] at hs1 hs2
    rw [hs1] at HSO
    have hvl : vals.length = K := by rw [hvals]; simp
    have HS2 := hid hs2
    have HVL := hid hvl
    clear hc hb2 HCF HAV HSP hs1 hs2 hvals hvl
    go_wp2_with (go_at_call 22; refine (HSE.out _ HB2.out).mono ?_; rintro e w3 ⟨g0, c0, ja, jc, rfl, _, _, hji, hb3⟩; refine Stop.of ?_)
    refine Stop.go ?_
    have HB3 := hid (chain HB2.out hb3)
    have HJI := hid hji
    clear hb3 HSE hji
    go_wp2_with (go_at_call 23; refine (HSO.out _ HB3.out ja jc HJI.out).mono ?_; rintro e w4 ⟨v4, base, rfl, _, hO, hb4⟩; refine Stop.of ?_)
    refine Stop.go ?_
    have HB4 := hid (chain HB3.out hb4)
    obtain ⟨va, vc, rfl, hvm, hvr⟩ := hO.reads
    rw [HVL.out] at hvm ⊢
    have HJ4 := hid (HJI.out.below hb4)
    have cc := HCC.out _ HB4.out
    have HSC := hid (spread_c w4 W (by omega) (by omega) ja va K jc K vc (intsJ J) vals HJL.out HVL.out (Nat.le_refl _) (by omega) HJ4.out hvr HBJ.out)
    rw [HS2.out] at HSC
    clear hb4 HSO hO hvr HJI HJ4
    go_wp2_with (go_at_call 24; refine HSC.out.mono ?_; rintro e w5 ⟨g, rfl, hg, hrb, hb5⟩; refine Stop.of ?_)
    refine Stop.go ?_
    have hxl : A1.length = W := by rw [← HS2.out]; exact spreadTo_len W (intsJ J) vals _
    have HRO := hid (hrb.own hxl (by have : (1000 : Nat) ≤ maxLen := (by decide); omega) hg)
    have HG := hid (Nat.le_trans HB4.out.size hg)
    have HB5 := hid (chain HB4.out hb5)
    clear hrb hg hb5 hxl HSC
    go_wp2
    go_ret2
    exact ⟨_, _, rfl, HB4.out.size, HRO.out, HB5.out⟩
  · refine Stop.go ?_
    have HB2 := hid (chain HB1.out hb2)
    have hx : (A1, A2) = (([] : List Rt), (10 : Int)) := HAV.out.trans (by rw [hc]; rfl)
    obtain ⟨rfl, rfl⟩ := Prod.mk.inj hx
    clear hx
    clear hc hb2 HCF HAV hi HSP HSO HSE
    go_wp2
    go_ret2
    first | exact ⟨.slice none 0 0, w.heap.size, rfl, Nat.le_refl _, RatsO.nil _ _, HB2.out⟩ | exact ⟨.slice none 0 0, rfl, w.heap.size, Nat.le_refl _, RatsO.nil _ _, HB2.out⟩
end Go.Proofs.YtfipebkhomppmaaGreat

namespace Go.Proofs.YtfipebkhomppmaaGreat
open Go.ChangeShapes Go.WideShapes Go.ChangeAt Go.RowKit Go.Deep
set_option linter.unusedVariables false

def Fits64 (n : Int) : Prop := -9223372036854775808 ≤ n ∧ n ≤ 9223372036854775807
theorem fits64 {n : Int} (h : (Lit.int .i64 n).wf = true) : Fits64 n := by
  simpa [Fits64, Lit.wf, IntKind.min, IntKind.max, IntKind.signed, IntKind.bits] using h

theorem cell_plain {w : World} {a : Addr} {v : Value} (h : w.cell? a = some v) : a = ⟨a.block, a.off, none⟩ ∧ a.block < w.heap.size := by
  unfold World.cell? at h
  split at h
  · rename_i c _ _ hb
    obtain ⟨b, o, s⟩ := a
    cases s with
    | none => exact ⟨rfl, (Array.getElem?_eq_some_iff.1 hb).1⟩
    | some s => simp at h
  · simp at h

theorem add_plain (b o : Nat) (i : Nat) : (Addr.mk b o none).add i = ⟨b, o + i, none⟩ := by
  unfold Addr.add
  split
  · rename_i h; rw [h]; rfl
  · rfl

section
variable {H : Type} {enc : TypeId × Value → H} {P : Program} {w : World} {base : Nat} {held : Bool}

theorem ints_opened {e q : TypeId} {fuel : Nat} {a : Option Addr} {n cap : Nat} {x : DataW H × List MemPlace} (he : P.underlying e = some (.slice q)) (hq : P.underlying q = some (.int .i64)) (cq : P.cellsOf q = 1)
    (h : DataW.trod enc P w base (fun _ => true) held fuel e [.slice a n cap] = some x) : ∃ l : List Int, l.length = n ∧ n ≤ maxLen ∧ IntsAt w a l ∧ ∀ y ∈ l, Fits64 y := by
  rcases open_ints he hq cq h with ⟨hcs, _⟩ | ⟨x, l, c, zs, hcs, _, hl, hm, hz, _, hcell, hwz⟩
  · simp at hcs
    obtain ⟨rfl, rfl, rfl⟩ := hcs
    exact ⟨[], rfl, by decide, fun j hj => by simp at hj, fun y hy => by simp at hy⟩
  · simp at hcs
    obtain ⟨rfl, rfl, rfl⟩ := hcs
    simp only [if_true] at hz
    refine ⟨zs.take n, by rw [List.length_take]; omega, by omega, fun j hj => ?_, fun y hy => fits64 (hwz y (List.mem_of_mem_take hy))⟩
    rw [List.length_take] at hj
    have h0 := cell_plain (hcell 0 (by omega))
    simp only [Addr.add, if_true] at h0
    obtain ⟨b, o, s⟩ := x
    have hs : s = none := by have := h0.1; simp at this; exact this
    subst hs
    refine ⟨b, o, rfl, h0.2, ?_⟩
    have := hcell j (by omega)
    rw [add_plain] at this
    rw [this]
    simp [List.getElem?_take, show j < n by omega, List.getD]

theorem arg_ints {r : Reach} {b0 : Nat} {e q : TypeId} {v : Value} {d : DataW H} {p : List MemPlace} (he : P.underlying e = some (.slice q)) (hq : P.underlying q = some (.int .i64)) (cq : P.cellsOf q = 1)
    (hv : Value.okWide P w r b0 e v) (h : DataW.Trod enc P w base (fun _ => true) held e v d p) : ∃ a n cap, ∃ l : List Int, v = .slice a n cap ∧ l.length = n ∧ n ≤ maxLen ∧ IntsAt w a l ∧ ∀ y ∈ l, Fits64 y := by
  obtain ⟨a, n, cap, rfl⟩ := okWide_slice he hv
  obtain ⟨fuel, hf⟩ := h
  obtain ⟨l, h1, h2, h3, h4⟩ := ints_opened he hq cq (by simpa [Value.cells] using hf)
  exact ⟨a, n, cap, l, rfl, h1, h2, h3, h4⟩

theorem arg_rows {r : Reach} {b0 : Nat} {t e q : TypeId} {v : Value} {d : DataW H} {p : List MemPlace} (ht : P.underlying t = some (.slice e)) (ce : P.cellsOf e = 1) (he : P.underlying e = some (.slice q)) (hq : P.underlying q = some (.int .i64)) (cq : P.cellsOf q = 1)
    (hv : Value.okWide P w r b0 t v) (h : DataW.Trod enc P w base (fun _ => true) held t v d p) : ∃ a n cap, ∃ l : List (List Int), v = .slice a n cap ∧ l.length = n ∧ n ≤ maxLen ∧ RowsAt w a l ∧ ∀ y ∈ l, ∀ z ∈ y, Fits64 z := by
  obtain ⟨a, n, cap, rfl⟩ := okWide_slice ht hv
  obtain ⟨fuel, hf⟩ := h
  rcases open_slice1 ht ce (by simpa [Value.cells] using hf) with ⟨hcs, _⟩ | ⟨x, len, c', m, nn, V, D, Pl, hcs, _, hl, hm, hmm, _, hx⟩
  · simp at hcs
    obtain ⟨rfl, rfl, rfl⟩ := hcs
    exact ⟨none, 0, 0, [], rfl, rfl, by decide, fun j hj => by simp at hj, fun y hy => by simp at hy⟩
  simp at hcs
  obtain ⟨rfl, rfl, rfl⟩ := hcs
  simp only [if_true] at hmm
  have each : ∀ i, i < n → ∃ y : List Int × Option Addr × Nat × Nat, w.cell? (x.add i) = some (.slice y.2.1 y.2.2.1 y.2.2.2) ∧ y.1.length = y.2.2.1 ∧ y.2.2.1 ≤ maxLen ∧ IntsAt w y.2.1 y.1 ∧ (∀ z ∈ y.1, Fits64 z) := by
    intro i hi
    obtain ⟨hc, t0⟩ := hx i (by omega)
    have hsl : ∃ ra rn rc, V i = .slice ra rn rc := by
      rcases open_ints he hq cq t0 with ⟨hcs, _⟩ | ⟨x, l, c, zs, hcs, _⟩
      · simp at hcs; exact ⟨_, _, _, hcs⟩
      · simp at hcs; exact ⟨_, _, _, hcs⟩
    obtain ⟨ra, rn, rc, hV⟩ := hsl
    rw [hV] at hc t0
    obtain ⟨l, q1, q2, q3, q4⟩ := ints_opened he hq cq t0
    exact ⟨(l, ra, rn, rc), hc, q1, q2, q3, q4⟩
  haveI : Inhabited (List Int × Option Addr × Nat × Nat) := ⟨([], none, 0, 0)⟩
  obtain ⟨y, hy⟩ := choose_lt each
  refine ⟨some x, n, cap, (List.range n).map fun i => (y i).1, rfl, by simp, by omega, fun j hj => ?_, fun z hz => ?_⟩
  · have hjn : j < n := by simpa using hj
    have hp := cell_plain (hy 0 (by omega)).1
    simp only [Addr.add, if_true] at hp
    obtain ⟨b, o, s⟩ := x
    have hs' : s = none := by have := hp.1; simp at this; exact this
    subst hs'
    obtain ⟨r0, r3, r4, r5, r6⟩ := hy j hjn
    rw [add_plain] at r0
    refine ⟨b, o, (y j).2.1, (y j).2.2.1, (y j).2.2.2, rfl, hp.2, r0, ?_, r4, ?_⟩ <;> simp only [List.getElem_map, List.getElem_range] <;> assumption
  · obtain ⟨i, hi, rfl⟩ := List.mem_map.1 hz
    exact (hy i (List.mem_range.1 hi)).2.2.2.2
end
end Go.Proofs.YtfipebkhomppmaaGreat

namespace Go.Proofs.YtfipebkhomppmaaGreat
open Go.RowKit
set_option linter.unusedVariables false

set_option maxRecDepth 100000 in
set_option maxHeartbeats 4000000 in
theorem linPossible_c (w : World) (a : Option Addr) (n cap : Nat) (M : Mask) (hn : M.length = n) (hm : n ≤ maxLen) (H : RowsAt w a M) (_ : ∀ y ∈ M, ∀ z ∈ y, Fits64 z)
    (a2 : Option Addr) (n2 cap2 : Nat) (y : List Int) (hn2 : y.length = n2) (hm2 : n2 ≤ maxLen) (H2 : IntsAt w a2 y) (_ : ∀ z ∈ y, Fits64 z) :
    Calls Tryz.prog 3 #[.slice a n cap, .slice a2 n2 cap2] w fun e w' => e = .returned (.bool true) ∧ Below w.heap.size w w' := by
  have HAW := hid (fun X => awake_c X)
  have HSM := hid (small_c w a n cap M hn hm H none 0 0)
  have HLG := hid (long_c (w.alloc (.cells #[.slice a2 n2 cap2] 24)) (some ⟨w.heap.size, 0, none⟩) 1 1 [y] rfl (by decide) (rows_one hn2 hm2 H2))
  have HB1 := hid (show Below w.heap.size w (w.alloc (.cells #[.slice a2 n2 cap2] 24)) from (Below.refl _ _).alloc (Nat.le_refl _) _)
  have HP1 := hid (fun (X : World) (hX : Below w.heap.size w X) => lpossible_c X a a2 n cap n2 cap2 M y hn hn2 hm hm2 (H.below hX) (H2.below hX))
  have HP2 := hid (fun (X : World) (hX : Below w.heap.size w X) => r3Possible_c X a a2 n cap n2 cap2 M y hn hn2 hm hm2 (H.below hX) (H2.below hX))
  have HA1 := hid (fun (X : World) (hX : Below w.heap.size w X) => lany_c X a a2 n cap n2 cap2 M y hn hn2 hm hm2 (H.below hX) (H2.below hX))
  have HA2 := hid (fun (X : World) (hX : Below w.heap.size w X) => r3Any_c X a a2 n cap n2 cap2 M y hn hn2 hm hm2 (H.below hX) (H2.below hX))
  have HCF := hid (fun (X : World) (hX : Below w.heap.size w X) => lconflict_c X a a2 n cap n2 cap2 M y hn hn2 hm hm2 (H.below hX) (H2.below hX))
  have HMK := hid (fun (X : World) (hX : Below w.heap.size w X) (xa : Option Addr) (xn xc : Nat) (x : List Rt) (hxn : x.length = xn) (hxm : xn ≤ maxLen) (hx : RatsAt X xa x) => lmakes_c X a xa a2 n cap xn xc n2 cap2 M x y hn hxn hn2 hm hxm hm2 (H.below hX) hx (H2.below hX))
  have HD1 := hid (fun (X : World) (hX : Below w.heap.size w X) (za : Option Addr) (zn zc : Nat) (z : List Int) (hzn : z.length = zn) (hzm : zn ≤ maxLen) (hz : IntsAt X za z) => ldenies_c X a a2 za n cap n2 cap2 zn zc M y z hn hn2 hzn hm hm2 hzm (H.below hX) (H2.below hX) hz)
  have HD2 := hid (fun (X : World) (hX : Below w.heap.size w X) (za : Option Addr) (zn zc : Nat) (z : List Int) (hzn : z.length = zn) (hzm : zn ≤ maxLen) (hz : IntsAt X za z) => r3Denies_c X a a2 za n cap n2 cap2 zn zc M y z hn hn2 hzn hm hm2 hzm (H.below hX) (H2.below hX) hz)
  have HM := hid hm
  have HV := hid (show (rdE M y ≠ 0 → possV M y = (false, rdE M y) ∧ (anyV M y).2 = rdE M y) ∧
      (rdE M y = 0 → conflictF M y = none → possV M y = (true, 0) ∧ (anyV M y).2 = 0 ∧ makesB M (anyV M y).1 y = true) ∧
      (rdE M y = 0 → ∀ z, conflictF M y = some z → possV M y = (false, 0) ∧ (anyV M y).2 = 10 ∧ denyB M y z = true ∧ z.length = n) from by
    refine ⟨fun h0 => ?_, fun h0 hc => ?_, fun h0 z hc => ?_⟩
    · unfold possV anyV; rw [if_neg h0, if_neg h0]; exact ⟨rfl, rfl⟩
    · obtain ⟨hok, hyl, _⟩ := rd_ok h0
      have hs := solved_conf hok hyl
      rw [hc] at hs
      have hav : anyV M y = ((solvedR (withY M y) (colsM M)).1, 0) := by unfold anyV; rw [if_pos h0, hs]; rfl
      rw [hav]
      refine ⟨by unfold possV; rw [if_pos h0, hc]; rfl, rfl, any_makes h0 hc⟩
    · obtain ⟨hok, hyl, _⟩ := rd_ok h0
      have hs := solved_conf hok hyl
      rw [hc] at hs
      have hav : anyV M y = ([], 10) := by unfold anyV; rw [if_pos h0, hs]; rfl
      obtain ⟨d1, d2⟩ := conf_deny h0 hc
      rw [hav]
      exact ⟨by unfold possV; rw [if_pos h0, hc]; rfl, rfl, d1, by omega⟩)
  obtain ⟨B0, hB0⟩ : ∃ B, B = longB [y] := ⟨_, rfl⟩
  rw [← hB0] at HLG
  obtain ⟨⟨pB, pE⟩, hpv⟩ : ∃ B, B = possV M y := ⟨_, rfl⟩
  rw [← hpv] at HP1 HP2 HV
  obtain ⟨⟨xL, xE⟩, hxv⟩ : ∃ B, B = anyV M y := ⟨_, rfl⟩
  rw [← hxv] at HA1 HA2 HV
  simp only [] at HP1 HP2 HA1 HA2 HV
  clear hn hn2 H H2 hB0 hpv hxv hm
  go_enter Tryz.func3, Tryz.ntmps3
  go_wp2_with (go_at_call 4; refine HSM.out.mono ?_; rintro e w1 ⟨⟨sb, rfl⟩, rfl⟩; refine Stop.of ?_)
  refine Stop.go ?_
  cases sb
  · go_wp2_with (go_at_call 6; refine (HAW.out _).mono ?_; rintro e w2 ⟨rfl, hb2⟩)
    go_ret
    exact ⟨rfl, hb2⟩
  go_wp2_with (go_at_call 5; refine HLG.out.mono ?_; rintro e w2 ⟨rfl, hw2⟩; refine Stop.of ?_)
  refine Stop.go ?_
  rw [hw2] at HB1
  clear hw2 HLG HSM
  cases B0
  rotate_left
  · go_wp2_with (go_at_call 6; refine (HAW.out _).mono ?_; rintro e w3 ⟨rfl, hb3⟩)
    go_ret
    exact ⟨rfl, chain HB1.out hb3⟩
  go_wp2_with (go_at_call 7; refine (HP1.out _ HB1.out).mono ?_; rintro e w3 ⟨rfl, hb3⟩; refine Stop.of ?_)
  refine Stop.go ?_
  have HB3 := hid (chain HB1.out hb3)
  clear hb3 HB1 HP1
  go_wp2_with (go_at_call 8; refine (HP2.out _ HB3.out).mono ?_; rintro e w4 ⟨rfl, hb4⟩; refine Stop.of ?_)
  refine Stop.go ?_
  have HB4 := hid (chain HB3.out hb4)
  clear hb4 HB3 HP2
  go_wp2_with (go_at_call 9; refine (HA1.out _ HB4.out).mono ?_; rintro e w5 ⟨v5, base5, rfl, _, ho5, hb5⟩; refine Stop.of ?_)
  refine Stop.go ?_
  have HB5 := hid (chain HB4.out hb5)
  obtain ⟨x5, xc5, rfl, hxm, hx5⟩ := ho5.reads
  have HX5 := hid hx5
  have HXM := hid hxm
  clear hb5 HB4 HA1 ho5 hx5 hxm
  go_wp2_with (go_at_call 10; refine (HA2.out _ HB5.out).mono ?_; rintro e w6 ⟨v6, base6, rfl, _, ho6, hb6⟩; refine Stop.of ?_)
  refine Stop.go ?_
  have HB6 := hid (chain HB5.out hb6)
  obtain ⟨x6, xc6, rfl, _, hx6⟩ := ho6.reads
  have hx56 := HX5.out.below hb6
  have HX56 := hid hx56
  have HSR := hid (sameRatios_c w6 x5 x6 xL.length xc5 xL.length xc6 xL xL rfl rfl HXM.out HXM.out hx56 hx6)
  rw [decide_eq_true (rfl : xL = xL)] at HSR
  clear hb6 HB5 HA2 ho6 hx6 hx56 HX5
  have hpp : (pB != pB) = false := by cases pB <;> rfl
  have hee : (pE != pE) = false := by simp
  have hxx : (xE != xE) = false := by simp
  go_wp2_with (go_at_call 11; refine HSR.out.mono ?_; rintro e w7 ⟨rfl, k7, rfl⟩; refine Stop.of ?_)
  refine Stop.go ?_
  have HB7 := hid (below_drewN HB6.out k7)
  have HX7 := hid (HX56.out.below (below_drewN (Below.refl w6.heap.size w6) k7))
  clear HX56 HB6 HSR hpp hee hxx
  go_wp2_with (go_at_call 12; refine (HCF.out _ HB7.out).mono ?_; rintro e w8 ⟨hp, hb8⟩; rcases hp with ⟨h0, rfl⟩ | ⟨h0, hc, rfl⟩ | ⟨h0, z, za, zc, hc, rfl, hi⟩; all_goals refine Stop.of ?_)
  · refine Stop.go ?_
    have HB8 := hid (chain HB7.out hb8)
    obtain ⟨e1, e2⟩ := HV.out.1 h0
    obtain ⟨rfl, rfl⟩ := Prod.mk.inj e1
    have hn0 : (rdE M y != 0) = true := by simpa using h0
    generalize rdE M y = E at *
    have hee : (E == E) = true := by simp
    clear hb8 h0 e1 e2 HCF HV
    go_wp2_with (go_at_call 6; refine (HAW.out _).mono ?_; rintro e w9 ⟨rfl, hb9⟩)
    go_ret
    exact ⟨rfl, chain HB8.out hb9⟩
  · refine Stop.go ?_
    have HB8 := hid (chain HB7.out hb8)
    obtain ⟨e1, e2, e3⟩ := HV.out.2.1 h0 hc
    obtain ⟨rfl, rfl⟩ := Prod.mk.inj e1
    have HX8 := hid (HX7.out.below hb8)
    have HMX := hid (HMK.out _ HB8.out x5 xL.length xc5 xL rfl HXM.out HX8.out)
    rw [e3] at HMX
    clear hb8 h0 hc e1 e2 e3 HCF HV
    go_wp2_with (go_at_call 13; refine HMX.out.mono ?_; rintro e w9 ⟨rfl, hb9⟩; refine Stop.of ?_)
    refine Stop.go ?_
    have HB9 := hid (chain HB8.out hb9)
    clear hb9 HMX
    go_wp2_with (go_at_call 6; refine (HAW.out _).mono ?_; rintro e w10 ⟨rfl, hb10⟩)
    go_ret
    exact ⟨rfl, chain HB9.out hb10⟩
  · refine Stop.go ?_
    have HB8 := hid (chain HB7.out hb8)
    obtain ⟨e1, e2, e3, e4⟩ := HV.out.2.2 h0 z hc
    obtain ⟨rfl, rfl⟩ := Prod.mk.inj e1
    subst e2
    have HI8 := hid hi
    have HDX := hid (HD2.out _ HB8.out (some za) n zc z e4 HM.out hi)
    have HDY := hid (fun (X : World) (hX : Below w8.heap.size w8 X) => HD1.out _ (chain HB8.out hX) (some za) n zc z e4 HM.out (HI8.out.below hX))
    rw [e3] at HDX HDY
    clear hb8 h0 hc e1 e3 e4 HCF HV hi
    go_wp2_with (go_at_call 14; refine HDX.out.mono ?_; rintro e w9 ⟨rfl, hb9⟩; refine Stop.of ?_)
    refine Stop.go ?_
    have HB9 := hid (chain HB8.out hb9)
    have HDZ := hid (HDY.out _ hb9)
    clear hb9 HDX HDY
    go_wp2_with (go_at_call 15; refine HDZ.out.mono ?_; rintro e w10 ⟨rfl, hb10⟩; refine Stop.of ?_)
    refine Stop.go ?_
    have HB10 := hid (chain HB9.out hb10)
    clear hb10 HDZ
    go_wp2_with (go_at_call 6; refine (HAW.out _).mono ?_; rintro e w11 ⟨rfl, hb11⟩)
    go_ret
    exact ⟨rfl, chain HB10.out hb11⟩
end Go.Proofs.YtfipebkhomppmaaGreat

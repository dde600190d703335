/- Walks and plain laws for LinPermutedRow, part 4. -/
import Derived.Maps.RangeWalk
import Derived.Maps.AppendAt
import Derived.Test.YtfipebkhomppmaaPkLinPermutedRow3
namespace Go.Proofs.Ytfipebkhomppmaa
section
set_option linter.unusedVariables false

theorem sm_add_at {f g : Nat → Int} {p : Nat} {x : Int} : ∀ {n : Nat}, p < n → (∀ c, c < n → f c = g c + if c = p then x else 0) → sm f n = sm g n + x
  | n, hp, h => by rw [sm_congr h, sm_add, sm_single (f := fun c => if c = p then x else 0) hp (fun k _ hne => if_neg hne), if_pos rfl]

theorem dotS_set {r : Vec} {h : List Int} {p n : Nat} {x : Int} (hp : p < n) (hl : h.length = n) : dotS r (vec (h.set p x)) n = dotS r (vec h) n + r p * (x - vec h p) := by
  unfold dotS
  refine sm_add_at hp fun c hc => ?_
  rw [vec_set (by omega)]
  by_cases e : c = p
  · subst e; rw [if_pos rfl, if_pos rfl]; grind
  · rw [if_neg e, if_neg e]; grind

theorem spread_before {n : Nat} {S l : List Int} (h : SetOk n S) {k : Nat} (hk : k < S.length) : ∀ t, t ≤ k → vec (spreadF n S l t) (S[k]).toNat = 0
  | 0, _ => by
    unfold spreadF vec
    simp only [List.range_zero, List.foldl_nil, List.getElem?_replicate]
    split <;> rfl
  | t + 1, ht => by
    have htS : t < S.length := by omega
    have hS : S[t]?.getD 0 = S[t] := by rw [List.getElem?_eq_getElem htS]; rfl
    have g1 := h.get htS
    have g2 := h.get hk
    rw [spreadF_succ, hS, vec_set (by rw [spreadF_len]; omega), if_neg (fun c => by have := h.inj hk htS (by omega); omega)]
    exact spread_before h hk t (by omega)

theorem dot_spread {n : Nat} {S l : List Int} (h : SetOk n S) (r : Vec) : ∀ k, k ≤ S.length → dotS r (vec (spreadF n S l k)) n = sm (fun i => pickV S r i * vec l i) k
  | 0, _ => by
    unfold dotS
    rw [sm_congr (g := fun _ => 0) (fun c _ => ?_), sm_zero]; rfl
    unfold spreadF vec
    simp only [List.range_zero, List.foldl_nil, List.getElem?_replicate]
    split <;> simp
  | k + 1, hk => by
    have hkS : k < S.length := by omega
    have hS : S[k]?.getD 0 = S[k] := by rw [List.getElem?_eq_getElem hkS]; rfl
    have g1 := h.get hkS
    rw [spreadF_succ, hS, dotS_set (by omega) (spreadF_len n S l k), dot_spread h r k (by omega), spread_before h hkS k (Nat.le_refl _)]
    have : pickV S r k = r (S[k]).toNat := by unfold pickV; rw [List.getElem?_eq_getElem hkS]
    show _ = sm _ k + pickV S r k * vec l k
    rw [this]
    unfold vec
    simp

theorem spread_ker {M : List (List Int)} {n : Nat} {S l : List Int} (h : SetOk n S) : IsKer M n (vec (spreadF n S l S.length)) ↔ IsKer (colsF M S) S.length (vec l) := by
  unfold IsKer
  rw [colsF_len]
  have : ∀ q, dotS (rowv M q) (vec (spreadF n S l S.length)) n = dotS (rowv (colsF M S) q) (vec l) S.length := fun q => by
    rw [dot_spread h _ _ (Nat.le_refl _), colsF_rowv]; rfl
  constructor
  · intro hk q hq; rw [← this]; exact hk q hq
  · intro hk q hq; rw [this]; exact hk q hq

theorem spread_nz {n : Nat} {S l : List Int} (h : SetOk n S) (hl : l.length = S.length) {c : Nat} : vec (spreadF n S l S.length) c ≠ 0 ↔ ∃ i, ∃ hi : i < S.length, S[i] = (c : Int) ∧ vec l i ≠ 0 := by
  constructor
  · intro hc
    by_cases hm : (c : Int) ∈ S
    · obtain ⟨i, hi, e⟩ := List.mem_iff_getElem.1 hm
      refine ⟨i, hi, e, fun h0 => hc ?_⟩
      have := spread_in (l := l) h S.length (Nat.le_refl _) i hi hi
      rw [show (S[i]).toNat = c by omega] at this
      rw [this]; exact h0
    · exact absurd (spread_out h hm _ (Nat.le_refl _)) hc
  · rintro ⟨i, hi, e, hz⟩ h0
    have := spread_in (l := l) h S.length (Nat.le_refl _) i hi hi
    rw [show (S[i]).toNat = c by omega, h0] at this
    exact hz this.symm

theorem spread_pick {n : Nat} {S : List Int} (h : SetOk n S) {v : Vec} (h0 : ∀ c, c < n → (c : Int) ∉ S → v c = 0) {c : Nat} (hc : c < n) : vec (spreadF n S (S.map fun j => v j.toNat) S.length) c = v c := by
  by_cases hm : (c : Int) ∈ S
  · obtain ⟨i, hi, e⟩ := List.mem_iff_getElem.1 hm
    have := spread_in (l := S.map fun j => v j.toNat) h S.length (Nat.le_refl _) i hi hi
    rw [show (S[i]).toNat = c by omega] at this
    rw [this, List.getElem?_map, List.getElem?_eq_getElem hi]
    show v (S[i]).toNat = v c
    rw [e]; rfl
  · rw [spread_out h hm _ (Nat.le_refl _), h0 c hc hm]

theorem IsKer.congr {M : List (List Int)} {n : Nat} {u v : Vec} (h : IsKer M n u) (e : ∀ c, c < n → u c = v c) : IsKer M n v := fun q hq => by
  have := h q hq
  unfold dotS at *
  rw [sm_congr (g := fun c => rowv M q c * u c) (fun c hc => by rw [e c hc])]; exact this

theorem primV_vec (h : List Int) : ∃ x y : Int, 0 < x ∧ (y = 1 ∨ y = -1) ∧ ∀ c, x * vec (primV h) c = y * vec h c := by
  obtain ⟨g, hg, e⟩ := shortF_mul h
  unfold primV
  split
  · exact ⟨g, -1, hg, .inr rfl, fun c => by rw [negF_vec, ← e c]; grind⟩
  · exact ⟨g, 1, hg, .inl rfl, fun c => by rw [e c]; omega⟩

theorem circ1_some {M : List (List Int)} {n : Nat} (h : MaskOk M n) {S c : List Int} (hS : SetOk n S) (hc : circ1P M n S = some c) :
    ∃ l, kerSP M S = [l] ∧ l.length = S.length ∧ (∀ i, i < S.length → vec l i ≠ 0) ∧ c = primV (spreadF n S l S.length) := by
  unfold circ1P at hc
  split at hc
  · rename_i l hl
    have hm : l ∈ kerSR M S := by rw [← kerS_same h, hl]; simp
    have hlen := kerSR_len hm
    by_cases h0 : l.contains 0 = true
    · rw [if_pos h0] at hc; cases hc
    · rw [if_neg h0] at hc
      cases hc
      refine ⟨l, hl, hlen, fun i hi e => h0 ?_, rfl⟩
      rw [vec_lt (by omega)] at e
      rw [List.contains_iff_mem, ← e]
      exact List.getElem_mem _
  · cases hc

theorem circ_supp {M : List (List Int)} {n : Nat} (h : MaskOk M n) {S c : List Int} (hS : SetOk n S) (hc : circ1P M n S = some c) (j : Nat) : vec c j ≠ 0 ↔ (j : Int) ∈ S := by
  obtain ⟨l, hl, hlen, hnz, rfl⟩ := circ1_some h hS hc
  obtain ⟨x, y, hx, hy, e⟩ := primV_vec (spreadF n S l S.length)
  have h1 : vec (primV (spreadF n S l S.length)) j ≠ 0 ↔ vec (spreadF n S l S.length) j ≠ 0 := by
    have := e j
    constructor
    · intro h0 h1; rw [h1] at this; exact h0 (eq_zero_of_mul (g := x) (by omega) (by simpa using this))
    · intro h0 h1; rw [h1] at this; exact h0 (eq_zero_of_mul (g := y) (by omega) (by simpa using this.symm))
  rw [h1, spread_nz hS hlen]
  constructor
  · rintro ⟨i, hi, e, _⟩; rw [← e]; exact List.getElem_mem hi
  · intro hm
    obtain ⟨i, hi, e⟩ := List.mem_iff_getElem.1 hm
    exact ⟨i, hi, e, hnz i hi⟩

theorem kerSP_one {M : List (List Int)} {S l : List Int} (hl : kerSP M S = [l]) : ∃ f, freeF (JP (colsF M S) S.length) S.length = [f] ∧ l = shortF (rawP (RP (colsF M S) S.length) (JP (colsF M S) S.length) S.length f) := by
  unfold kerSP kernP at hl
  obtain ⟨f, hf, e⟩ : ∃ f, freeF (JP (colsF M S) S.length) S.length = [f] ∧ _ = l := by
    cases hfr : freeF (JP (colsF M S) S.length) S.length with
    | nil => rw [show freeF (pRed (colsF M S) S.length).2 S.length = [] from hfr] at hl; simp at hl
    | cons f t =>
      rw [show freeF (pRed (colsF M S) S.length).2 S.length = f :: t from hfr] at hl
      simp only [List.map_cons, List.cons.injEq] at hl
      have ht : t = [] := by simpa using hl.2
      subst ht
      exact ⟨f, rfl, hl.1⟩
  exact ⟨f, hf, e.symm⟩

theorem circ_least {M : List (List Int)} {n : Nat} (h : MaskOk M n) {S c : List Int} (hS : SetOk n S) (hc : circ1P M n S = some c) {v : Vec} (hv : IsKer M n v) (h0 : ∀ j, j < n → (j : Int) ∉ S → v j = 0) (hne : ∃ j, j < n ∧ v j ≠ 0) :
    ∀ j : Nat, (j : Int) ∈ S → v j ≠ 0 := by
  obtain ⟨l, hl, hlen, hnz, rfl⟩ := circ1_some h hS hc
  obtain ⟨f, hf, hlf⟩ := kerSP_one hl
  have hk : IsKer (colsF M S) S.length (vec (S.map fun j => v j.toNat)) := (spread_ker hS).1 (hv.congr fun c hc => (spread_pick hS h0 hc).symm)
  obtain ⟨g, hg, e⟩ := shortF_mul (rawP (RP (colsF M S) S.length) (JP (colsF M S) S.length) S.length f)
  rw [← hlf] at e
  have hfS : f < S.length := by
    have : f ∈ freeF (JP (colsF M S) S.length) S.length := by rw [hf]; simp
    simpa using (List.mem_filter.1 this).1
  -- w i * l f = l i * w f
  have key : ∀ i, i < S.length → vec (S.map fun j => v j.toNat) i * vec l f = vec l i * vec (S.map fun j => v j.toNat) f := by
    intro i hi
    have := (h.cols S).ker_one hf hk hi
    rw [← e, ← e] at this
    refine Int.eq_of_mul_eq_mul_left (show g ≠ 0 by omega) ?_
    grind
  have hw : ∀ i (hi : i < S.length), vec (S.map fun j => v j.toNat) i = v (S[i]).toNat := fun i hi => by
    unfold vec; rw [List.getElem?_map, List.getElem?_eq_getElem hi]; rfl
  have hwf : vec (S.map fun j => v j.toNat) f ≠ 0 := by
    intro hz
    obtain ⟨j, hj, hvj⟩ := hne
    have hm : (j : Int) ∈ S := by
      rcases Classical.em ((j : Int) ∈ S) with c | c
      · exact c
      · exact absurd (h0 j hj c) hvj
    obtain ⟨i, hi, ei⟩ := List.mem_iff_getElem.1 hm
    have := key i hi
    rw [hz, hw i hi, show (S[i]).toNat = j by omega, Int.mul_zero] at this
    rcases Int.mul_eq_zero.1 this with a | a
    · exact hvj a
    · exact hnz f hfS a
  intro j hm hz
  obtain ⟨i, hi, ei⟩ := List.mem_iff_getElem.1 hm
  have := key i hi
  rw [hw i hi, show (S[i]).toNat = j by omega, hz, Int.zero_mul] at this
  rcases Int.mul_eq_zero.1 this.symm with a | a
  · exact hnz i hi a
  · exact hwf a

theorem circP_mem {M : List (List Int)} {n : Nat} {c : List Int} : c ∈ circP M n ↔ ∃ k S, k < min (rankF M n + 1) n ∧ S ∈ comb n (k + 1) 0 ∧ circ1P M n S = some c := by
  unfold circP
  simp only [List.mem_flatMap, List.mem_range, List.mem_filterMap]
  constructor
  · rintro ⟨k, hk, S, hS, e⟩; exact ⟨k, S, hk, hS, e⟩
  · rintro ⟨k, S, hk, hS, e⟩; exact ⟨k, hk, S, hS, e⟩

theorem circ_facts {M : List (List Int)} {n : Nat} (h : MaskOk M n) {S c : List Int} (hS : SetOk n S) (hne : S ≠ []) (hc : circ1P M n S = some c) :
    c.length = n ∧ IsKer M n (vec c) ∧ (∀ j, (vec c j).natAbs ≤ 518400) ∧ Prim (vec c) ∧ 0 < firstNz c := by
  obtain ⟨l, hl, hlen, hnz, rfl⟩ := circ1_some h hS hc
  have hm : l ∈ kerSP M S := by rw [hl]; simp
  obtain ⟨k1, k2, k3, _⟩ := (h.cols S).kern hm
  obtain ⟨x, y, hx, hy, e⟩ := primV_vec (spreadF n S l S.length)
  have hkS := (spread_ker (M := M) hS).2 k1
  have hSp : 0 < S.length := List.length_pos_iff.2 hne
  refine ⟨?_, ?_, ?_, ?_, ?_⟩
  · unfold primV
    split
    · unfold negF; rw [List.length_map, shortF_len, spreadF_len]
    · rw [shortF_len, spreadF_len]
  · intro q hq
    have h1 := hkS q hq
    refine eq_zero_of_mul (g := x) (by omega) ?_
    unfold dotS at *
    rw [← sm_mul, sm_congr (g := fun c => y * (rowv M q c * vec (spreadF n S l S.length) c)) (fun c _ => by have := e c; grind), sm_mul, h1]; simp
  · intro j
    have h1 : (vec (primV (spreadF n S l S.length)) j).natAbs ≤ (vec (spreadF n S l S.length) j).natAbs := by
      have := congrArg Int.natAbs (e j)
      rw [Int.natAbs_mul, Int.natAbs_mul] at this
      have hy1 : y.natAbs = 1 := by omega
      rw [hy1, Nat.one_mul] at this
      rw [← this]; exact Nat.le_mul_of_pos_left _ (by omega)
    refine Nat.le_trans h1 ?_
    by_cases hm : (j : Int) ∈ S
    · obtain ⟨i, hi, ei⟩ := List.mem_iff_getElem.1 hm
      have := spread_in (l := l) hS S.length (Nat.le_refl _) i hi hi
      rw [show (S[i]).toNat = j by omega] at this
      rw [this]; exact k3 i
    · rw [spread_out hS hm _ (Nat.le_refl _)]; simp
  · have hp : Prim (vec (shortF (spreadF n S l S.length))) := by
      rcases shortF_prim (spreadF n S l S.length) with a | a
      · exact a
      · exfalso
        obtain ⟨g, hg, e2⟩ := shortF_mul (spreadF n S l S.length)
        have h1 := e2 (S[0]).toNat
        rw [a, spread_in hS S.length (Nat.le_refl _) 0 hSp hSp] at h1
        exact hnz 0 hSp (by unfold vec; rw [← h1]; simp)
    unfold primV
    split
    · exact prim_neg (z := -1) (.inr rfl) (fun c => by rw [negF_vec]; omega) hp
    · exact hp
  · -- the first number that is not 0
    have hz : ∀ m : List Int, (∃ j, vec m j ≠ 0) → firstNz m ≠ 0 := by
      intro m
      induction m with
      | nil => rintro ⟨j, hj⟩; simp [vec] at hj
      | cons a m ih =>
        rintro ⟨j, hj⟩
        unfold firstNz
        by_cases ha : a = 0
        · rw [if_pos ha]
          match j, hj with
          | 0, hj => simp [vec] at hj; exact absurd ha hj
          | j + 1, hj => exact ih ⟨j, by simpa [vec] using hj⟩
        · rw [if_neg ha]; exact ha
    have hn : ∀ m : List Int, firstNz (negF m) = - firstNz m := by
      intro m
      induction m with
      | nil => rfl
      | cons a m ih =>
        show (if -a = 0 then firstNz (negF m) else -a) = -(if a = 0 then firstNz m else a)
        by_cases ha : a = 0
        · rw [if_pos ha, if_pos (by omega), ih]
        · rw [if_neg ha, if_neg (by omega)]
    have hs : firstNz (shortF (spreadF n S l S.length)) ≠ 0 := by
      refine hz _ ⟨(S[0]).toNat, fun h0 => ?_⟩
      obtain ⟨g, hg, e2⟩ := shortF_mul (spreadF n S l S.length)
      have h1 := e2 (S[0]).toNat
      rw [h0, spread_in hS S.length (Nat.le_refl _) 0 hSp hSp] at h1
      exact hnz 0 hSp (by unfold vec; rw [← h1]; simp)
    unfold primV
    split
    · rw [hn]; omega
    · omega

theorem nodup_sub {α : Type} [BEq α] [LawfulBEq α] : ∀ {l m : List α}, l.Nodup → (∀ x ∈ l, x ∈ m) → l.length ≤ m.length
  | [], _, _, _ => Nat.zero_le _
  | x :: l, m, hn, h => by
    rw [List.nodup_cons] at hn
    have hx := h x (by simp)
    have := nodup_sub (l := l) (m := m.erase x) hn.2 (fun y hy => (List.mem_erase_of_ne (fun e => hn.1 (by rw [← e]; exact hy))).2 (h y (by simp [hy])))
    rw [List.length_erase_of_mem hx] at this
    have := List.length_pos_of_mem hx
    simp only [List.length_cons]; omega

def suppL (n : Nat) (v : Vec) : List Int := ((List.range n).filter (fun c => decide (v c ≠ 0))).map (fun c : Nat => (c : Int))
theorem mem_suppL {n : Nat} {v : Vec} {j : Nat} : (j : Int) ∈ suppL n v ↔ j < n ∧ v j ≠ 0 := by
  unfold suppL
  simp only [List.mem_map, List.mem_filter, List.mem_range]
  constructor
  · rintro ⟨c, ⟨h1, h2⟩, e⟩
    have : c = j := by omega
    subst this; exact ⟨h1, by simpa using h2⟩
  · rintro ⟨h1, h2⟩; exact ⟨j, ⟨h1, by simpa using h2⟩, rfl⟩
theorem suppL_ok (n : Nat) (v : Vec) : SetOk n (suppL n v) := by
  constructor
  · unfold suppL
    rw [List.pairwise_map]
    exact (List.pairwise_lt_range.filter _).imp (fun h => by omega)
  · intro y hy
    unfold suppL at hy
    obtain ⟨c, hc, rfl⟩ := List.mem_map.1 hy
    have := List.mem_range.1 (List.mem_filter.1 hc).1
    omega

theorem circ_within {M : List (List Int)} {n : Nat} (h : MaskOk M n) : ∀ (s : Nat) (v : Vec), (suppL n v).length = s → IsKer M n v → (∃ j, j < n ∧ v j ≠ 0) → ∃ S c, SetOk n S ∧ S.length ≤ s ∧ S ≠ [] ∧ (∀ y ∈ S, y ∈ suppL n v) ∧ circ1P M n S = some c := by
  intro s
  induction s using Nat.strongRecOn with
  | ind s ih =>
    intro v hs hv hne
    have hS := suppL_ok n v
    obtain ⟨S, hSe⟩ : ∃ S, S = suppL n v := ⟨_, rfl⟩
    rw [← hSe] at hS hs
    have h0 : ∀ j, j < n → (j : Int) ∉ S → v j = 0 := fun j hj hm => by
      rcases Classical.em (v j = 0) with c | c
      · exact c
      · exact absurd (by rw [hSe]; exact mem_suppL.2 ⟨hj, c⟩) hm
    have hne2 : S ≠ [] := by
      obtain ⟨j, hj, hvj⟩ := hne
      intro e
      have : (j : Int) ∈ S := by rw [hSe]; exact mem_suppL.2 ⟨hj, hvj⟩
      rw [e] at this; simp at this
    have hk : IsKer (colsF M S) S.length (vec (S.map fun j => v j.toNat)) := (spread_ker hS).1 (hv.congr fun c hc => (spread_pick hS h0 hc).symm)
    have hc := h.cols S
    have hw : ∀ i (hi : i < S.length), vec (S.map fun j => v j.toNat) i ≠ 0 := fun i hi => by
      have : vec (S.map fun j => v j.toNat) i = v (S[i]).toNat := by unfold vec; rw [List.getElem?_map, List.getElem?_eq_getElem hi]; rfl
      rw [this]
      have hm : ((S[i]).toNat : Int) ∈ suppL n v := by
        have g := hS.get hi
        rw [show ((S[i]).toNat : Int) = S[i] by omega, ← hSe]; exact List.getElem_mem hi
      exact (mem_suppL.1 hm).2
    -- the free columns
    have hfree : ∃ f, f < S.length ∧ f ∉ JP (colsF M S) S.length := by
      refine Classical.byContradiction fun hno => ?_
      have hall : ∀ f, f < S.length → f ∈ JP (colsF M S) S.length := fun f hf => Classical.byContradiction fun hn => hno ⟨f, hf, hn⟩
      have hSp : 0 < S.length := List.length_pos_iff.2 hne2
      obtain ⟨i, hi, e⟩ := mem_jf (hall 0 hSp)
      have hr := hc.ker_iff.1 hk i hi
      rw [hc.dot_row _ hi, sm_congr (g := fun _ => 0) (fun c hcl => if_pos (hall c hcl)), sm_zero, e] at hr
      have hp : 0 < rowv (RP (colsF M S) S.length) i (jf (JP (colsF M S) S.length) i) := ((hc.inv S.length).pp i hi).2
      rw [e] at hp
      rcases Int.mul_eq_zero.1 (show rowv (RP (colsF M S) S.length) i 0 * vec (S.map fun j => v j.toNat) 0 = 0 by omega) with a | a
      · omega
      · exact hw 0 hSp a
    obtain ⟨f, hf, hfJ⟩ := hfree
    have hfm : f ∈ freeF (JP (colsF M S) S.length) S.length := List.mem_filter.2 ⟨by simpa using hf, by simpa using hfJ⟩
    rcases Classical.em (∃ f2, f2 ∈ freeF (JP (colsF M S) S.length) S.length ∧ f2 ≠ f) with ⟨f2, hf2, hne3⟩ | hone
    · -- a second free column: a vector with a smaller support
      obtain ⟨g1, g2⟩ := List.mem_filter.1 hf2
      have hf2S : f2 < S.length := by simpa using g1
      have hf2J : f2 ∉ JP (colsF M S) S.length := by simpa using g2
      obtain ⟨t, ht, _, r1, r2, _⟩ := hc.raw hf hfJ
      have hrk := hc.raw_ker hf hfJ
      have hlen : (rawP (RP (colsF M S) S.length) (JP (colsF M S) S.length) S.length f).length = S.length := by unfold rawP; rw [fillF_len]; simp
      obtain ⟨u, hu⟩ : ∃ u, u = vec (spreadF n S (rawP (RP (colsF M S) S.length) (JP (colsF M S) S.length) S.length f) S.length) := ⟨_, rfl⟩
      have huk : IsKer M n u := by rw [hu]; exact (spread_ker hS).2 hrk
      have hsub : ∀ y ∈ suppL n u, y ∈ S ∧ y ≠ S[f2] := by
        intro y hy
        have gy := (suppL_ok n u).2 y hy
        have hy' : ((y.toNat : Nat) : Int) ∈ suppL n u := by rw [show ((y.toNat : Nat) : Int) = y by omega]; exact hy
        obtain ⟨_, hz⟩ := mem_suppL.1 hy'
        rw [hu] at hz
        obtain ⟨i, hi, ei, hzi⟩ := (spread_nz hS hlen).1 hz
        have e1 : S[i] = y := by omega
        refine ⟨by rw [← e1]; exact List.getElem_mem hi, fun e2 => ?_⟩
        have := hS.inj hi hf2S (by rw [e1, e2])
        subst this
        exact hzi (r2 i hf2J hne3)
      have hlt : (suppL n u).length < s := by
        have hnd : (suppL n u).Nodup := (suppL_ok n u).1.imp (fun h => by omega)
        have h1 : (S[f2] :: suppL n u).length ≤ S.length := by
          refine nodup_sub ?_ ?_
          · exact List.nodup_cons.2 ⟨fun hm => (hsub _ hm).2 rfl, hnd⟩
          · intro y hy
            rcases List.mem_cons.1 hy with rfl | hy
            · exact List.getElem_mem hf2S
            · exact (hsub y hy).1
        simp only [List.length_cons] at h1
        omega
      have hune : ∃ j, j < n ∧ u j ≠ 0 := by
        have g := hS.get hf
        refine ⟨(S[f]).toNat, by omega, ?_⟩
        rw [hu, spread_nz hS hlen]
        exact ⟨f, hf, by omega, by rw [r1]; omega⟩
      obtain ⟨T, c, t1, t2, t3, t4, t5⟩ := ih _ hlt u rfl huk hune
      exact ⟨T, c, t1, by omega, t3, fun y hy => by rw [← hSe]; exact (hsub y (t4 y hy)).1, t5⟩
    · -- one free column: a circuit
      have hone' : freeF (JP (colsF M S) S.length) S.length = [f] := by
        have hall : ∀ x ∈ freeF (JP (colsF M S) S.length) S.length, x = f := fun x hx => Classical.byContradiction fun hn => hone ⟨x, hx, hn⟩
        have hnd : (freeF (JP (colsF M S) S.length) S.length).Nodup := List.Pairwise.filter _ List.nodup_range
        match hL : freeF (JP (colsF M S) S.length) S.length, hall, hnd with
        | [], _, _ => rw [hL] at hfm; simp at hfm
        | [x], hall, _ => rw [hall x (by simp)]
        | x :: y :: t, hall, hnd =>
          have h1 := hall x (by simp)
          have h2 := hall y (by simp)
          rw [h1, h2] at hnd
          simp at hnd
      have hl : kerSP M S = [shortF (rawP (RP (colsF M S) S.length) (JP (colsF M S) S.length) S.length f)] := by
        show (freeF (JP (colsF M S) S.length) S.length).map _ = _
        rw [hone']; rfl
      refine ⟨S, primV (spreadF n S (shortF (rawP (RP (colsF M S) S.length) (JP (colsF M S) S.length) S.length f)) S.length), hS, by omega, hne2, fun y hy => by rw [← hSe]; exact hy, ?_⟩
      unfold circ1P
      rw [hl]
      simp only []
      rw [if_neg]
      intro h0'
      have hm : (0 : Int) ∈ shortF (rawP (RP (colsF M S) S.length) (JP (colsF M S) S.length) S.length f) := by simpa using h0'
      obtain ⟨i, hi, ei⟩ := List.mem_iff_getElem.1 hm
      have hiS : i < S.length := by
        rw [shortF_len] at hi
        unfold rawP at hi
        rw [fillF_len] at hi
        simpa using hi
      have h1 := hc.ker_one hone' hk hiS
      obtain ⟨g, hg, e⟩ := shortF_mul (rawP (RP (colsF M S) S.length) (JP (colsF M S) S.length) S.length f)
      have h2 := e i
      rw [vec_lt hi, ei, Int.mul_zero] at h2
      rw [← h2, Int.zero_mul] at h1
      obtain ⟨t, ht, _, r1, _⟩ := hc.raw hf hfJ
      rw [r1] at h1
      rcases Int.mul_eq_zero.1 h1 with a | a
      · exact hw i hiS a
      · omega
end

section
set_option linter.unusedVariables false

def unitF (N i : Nat) : List Int := (List.replicate N 0).set i 1
def extF (M : List (List Int)) : List (List Int) := M.mapIdx (fun i r => r ++ unitF M.length i)
theorem extF_len (M : List (List Int)) : (extF M).length = M.length := by simp [extF]
theorem extF_get {M : List (List Int)} {i : Nat} (h : i < M.length) : (extF M)[i]? = some (M[i] ++ unitF M.length i) := by
  unfold extF; rw [List.getElem?_mapIdx, List.getElem?_eq_getElem h]; rfl
theorem extF_mem {M : List (List Int)} {r : List Int} (h : r ∈ extF M) : ∃ i, ∃ hi : i < M.length, r = M[i] ++ unitF M.length i := by
  obtain ⟨i, hi, rfl⟩ := List.mem_iff_getElem.1 h
  rw [extF_len] at hi
  have := extF_get hi
  rw [List.getElem?_eq_getElem (by rw [extF_len]; exact hi)] at this
  exact ⟨i, hi, Option.some.inj this⟩
theorem unitF_len (N i : Nat) : (unitF N i).length = N := by simp [unitF]
theorem unitF_vec {N i : Nat} (hi : i < N) (c : Nat) : vec (unitF N i) c = if c = i then 1 else 0 := by
  unfold unitF
  rw [vec_set (by simpa using hi)]
  split
  · rfl
  · unfold vec; rw [List.getElem?_replicate]; split <;> rfl
theorem vec_app_lt {a b : List Int} {c : Nat} (h : c < a.length) : vec (a ++ b) c = vec a c := by unfold vec; rw [List.getElem?_append_left h]
theorem vec_app_ge {a b : List Int} {c : Nat} (h : a.length ≤ c) : vec (a ++ b) c = vec b (c - a.length) := by unfold vec; rw [List.getElem?_append_right h]

structure ExtOk (M : List (List Int)) (n : Nat) : Prop where
  wid : ∀ r ∈ extF M, r.length = n + M.length
  one : ∀ r ∈ extF M, ∀ c, -1 ≤ vec r c ∧ vec r c ≤ 1
theorem MaskOk.ext {M : List (List Int)} {n : Nat} (h : MaskOk M n) : ExtOk M n := by
  constructor
  · intro r hr
    obtain ⟨i, hi, rfl⟩ := extF_mem hr
    rw [List.length_append, unitF_len, h.wid _ (List.getElem_mem hi)]
  · intro r hr c
    obtain ⟨i, hi, rfl⟩ := extF_mem hr
    rcases Nat.lt_or_ge c (M[i]).length with hc | hc
    · rw [vec_app_lt hc]; exact h.one _ (List.getElem_mem hi) c
    · rw [vec_app_ge hc, unitF_vec hi]; split <;> decide

theorem ext_row {M : List (List Int)} {n : Nat} (h : MaskOk M n) {i : Nat} (hi : i < M.length) (c : Nat) : rowv (extF M) i c = if c < n then rowv M i c else if c - n = i then 1 else 0 := by
  unfold rowv
  rw [extF_get hi, List.getElem?_eq_getElem hi]
  simp only [Option.getD_some]
  have hw := h.wid _ (List.getElem_mem hi)
  by_cases hc : c < n
  · rw [if_pos hc, vec_app_lt (by omega)]
  · rw [if_neg hc, vec_app_ge (by omega), unitF_vec hi, hw]

abbrev RE (M : List (List Int)) (n : Nat) : List (List Int) := (pRed (extF M) n).1
abbrev JE (M : List (List Int)) (n : Nat) : List Nat := (pRed (extF M) n).2
theorem MaskOk.einv {M : List (List Int)} {n : Nat} (h : MaskOk M n) (t : Nat) : RInv (n + M.length) M.length (rowv (extF M)) t (pRed (extF M) t).1 (pRed (extF M) t).2 := by
  have := pRed_inv (extF M) h.ext.wid t (fun j _ q => rowv_le (by decide) (fun r hr => h.ext.one r hr j) q)
  rwa [extF_len] at this

theorem MaskOk.re_le {M : List (List Int)} {n : Nat} (h : MaskOk M n) {t : Nat} (k c : Nat) : -720 ≤ vec ((pRed (extF M) t).1[k]?.getD []) c ∧ vec ((pRed (extF M) t).1[k]?.getD []) c ≤ 720 := by
  cases hk : (pRed (extF M) t).1[k]? with
  | none => simp [vec]
  | some r =>
    have := (pRed_le (n := t) (Y := 1) h.ext.wid (by rw [extF_len]; exact h.le6) (fun r hr c _ => h.ext.one r hr c) (fun r hr => mem_vec (P := fun x => -((1 : Nat) : Int) ≤ x ∧ x ≤ ((1 : Nat) : Int)) fun c => by have := h.ext.one r hr c; omega) (Nat.le_refl t) r (List.mem_of_getElem? hk)).2
    have h2 := vec_le (Y := 720) (by decide) (fun x hx => by have := this x hx; omega) c
    simpa using h2

def truncV (n : Nat) (v : Vec) : Vec := fun c => if c < n then v c else 0
theorem truncV_sp {B B' : Vec → Prop} {n : Nat} (hB : ∀ v, B v → Sp B' (truncV n v)) {v : Vec} (h : Sp B v) : Sp B' (truncV n v) :=
  Sp.map (truncV n) (by funext c; unfold truncV; split <;> rfl) (fun u v => by funext c; unfold truncV; split <;> simp) (fun k u => by funext c; unfold truncV; split <;> simp) hB h
theorem MaskOk.row_trunc {M : List (List Int)} {n : Nat} (h : MaskOk M n) {q : Nat} (hq : q < M.length) : truncV n (rowv (extF M) q) = rowv M q := by
  funext c
  unfold truncV
  by_cases hc : c < n
  · rw [if_pos hc, ext_row h hq, if_pos hc]
  · rw [if_neg hc, rowv_wid h.wid q (by omega)]

theorem MaskOk.ext_same {M : List (List Int)} {n : Nat} (h : MaskOk M n) : JE M n = JP M n ∧ ∀ k, k < (JP M n).length → ∀ c, c < n →
    rowv (RP M n) k (jf (JP M n) k) * rowv (RE M n) k c = rowv (RE M n) k (jf (JP M n) k) * rowv (RP M n) k c := by
  have he := h.einv n
  have hi := h.inv n
  have hE : Ech (JE M n).length (jf (JE M n)) (fun k => truncV n (rowv (RE M n) k)) := by
    have e := he.ech
    refine ⟨⟨fun k hk => ?_, fun k hk q hq hne => ?_⟩, fun k hk c hc => ?_, e.asc⟩
    · have hl := he.jf_lt hk
      simp only [truncV, if_pos hl]
      exact e.red.piv k hk
    · have hl := he.jf_lt hq
      simp only [truncV, if_pos hl]
      exact e.red.off k hk q hq hne
    · simp only [truncV]
      split
      · exact e.lead k hk c hc
      · rfl
  have s1 : ∀ k, k < (JE M n).length → Sp (RB (JP M n).length (rowv (RP M n))) (truncV n (rowv (RE M n) k)) := by
    intro k hk
    refine h.span.2 (truncV_sp (B := RB M.length (rowv (extF M))) ?_ (he.sp1 k (Nat.lt_of_lt_of_le hk he.K_le)))
    rintro v ⟨q, hq, rfl⟩
    rw [h.row_trunc hq]; exact RB.sp hq
  have s2 : ∀ k, k < (JP M n).length → Sp (RB (JE M n).length (fun k => truncV n (rowv (RE M n) k))) (rowv (RP M n) k) := by
    intro k hk
    refine (h.span.1 (RB.sp hk)).trans ?_
    rintro v ⟨q, hq, rfl⟩
    rw [← h.row_trunc hq]
    refine truncV_sp (B := RB M.length (rowv (RE M n))) ?_ (he.sp2 q hq)
    rintro v ⟨m, hm, rfl⟩
    rcases Nat.lt_or_ge m (JE M n).length with c | c
    · exact .of ⟨m, c, rfl⟩
    · refine Sp.zero.congr fun x => ?_
      unfold truncV
      split
      · exact he.zero m c hm x ‹_›
      · rfl
  obtain ⟨hK, hJ, hR⟩ := hE.unique hi.ech s1 s2
  have hJJ : JE M n = JP M n := List.ext_getElem hK fun k h1 h2 => by
    have := hJ k h1
    unfold jf at this
    rw [List.getElem?_eq_getElem h1, List.getElem?_eq_getElem h2] at this
    simpa using this
  refine ⟨hJJ, fun k hk c hc => ?_⟩
  have := hR k (by rw [hJJ]; exact hk) c
  rw [hJJ] at this
  have hl := hi.jf_lt hk
  simp only [truncV, if_pos hc, if_pos hl] at this
  exact this

def knownAt (M : List (List Int)) (n k p : Nat) : Prop := k < (JP M n).length ∧ jf (JP M n) k = p ∧ ∀ c, c < n → c ≠ p → rowv (RE M n) k c = 0
def knownF (M : List (List Int)) (n p : Nat) : Prop := ∃ k, knownAt M n k p

theorem MaskOk.piv_pos {M : List (List Int)} {n : Nat} (h : MaskOk M n) {k : Nat} (hk : k < (JP M n).length) : 0 < rowv (RP M n) k (jf (JP M n) k) ∧ 0 < rowv (RE M n) k (jf (JP M n) k) := by
  refine ⟨((h.inv n).pp k hk).2, ?_⟩
  have e := h.ext_same.1
  have := ((h.einv n).pp k (by rw [show (pRed (extF M) n).2 = JP M n from e]; exact hk)).2
  rwa [show (pRed (extF M) n).2 = JP M n from e] at this

theorem MaskOk.re_zero {M : List (List Int)} {n : Nat} (h : MaskOk M n) {k : Nat} (hk : k < (JP M n).length) {c : Nat} (hc : c < n) : rowv (RE M n) k c = 0 ↔ rowv (RP M n) k c = 0 := by
  have e := h.ext_same.2 k hk c hc
  obtain ⟨p1, p2⟩ := h.piv_pos hk
  constructor
  · intro h0; rw [h0, Int.mul_zero] at e; exact eq_zero_of_mul (g := rowv (RE M n) k (jf (JP M n) k)) (by omega) e.symm
  · intro h0; rw [h0, Int.mul_zero] at e; exact eq_zero_of_mul (g := rowv (RP M n) k (jf (JP M n) k)) (by omega) e

theorem MaskOk.known_iff {M : List (List Int)} {n : Nat} (h : MaskOk M n) {p : Nat} (hp : p < n) : knownF M n p ↔ ∀ v, IsKer M n v → v p = 0 := by
  have hi := h.inv n
  constructor
  · rintro ⟨k, hk, rfl, h0⟩ v hv
    have := h.ker_iff.1 hv k hk
    rw [h.dot_row _ hk, sm_congr (g := fun _ => 0) (fun c hc => ?_), sm_zero] at this
    · obtain ⟨p1, _⟩ := h.piv_pos hk
      exact eq_zero_of_mul (g := rowv (RP M n) k (jf (JP M n) k)) (by omega) (by omega)
    · split
      · rfl
      · rename_i hcJ
        rw [(h.re_zero hk hc).1 (h0 c hc (fun e => hcJ (e ▸ jf_mem hk)))]; simp
  · intro hall
    have hpJ : p ∈ JP M n := Classical.byContradiction fun hn => by
      obtain ⟨t, ht, _, r1, _⟩ := h.raw hp hn
      have := hall _ (h.raw_ker hp hn)
      omega
    obtain ⟨k, hk, e⟩ := mem_jf hpJ
    refine ⟨k, hk, e, fun c hc hne => (h.re_zero hk hc).2 ?_⟩
    by_cases hcJ : c ∈ JP M n
    · obtain ⟨i, hilt, rfl⟩ := mem_jf hcJ
      exact hi.ech.red.off k hk i hilt (fun e2 => hne (by rw [← e, e2]))
    · obtain ⟨t, ht, _, _, _, r3⟩ := h.raw hc hcJ
      have h1 := hall _ (h.raw_ker hc hcJ)
      have h2 := r3 k hk
      rw [e, h1, Int.zero_mul] at h2
      rcases Int.mul_eq_zero.1 h2.symm with a | a
      · omega
      · omega

theorem MaskOk.known_ref {M : List (List Int)} {n : Nat} (h : MaskOk M n) {p : Nat} (hp : p < n) : knownF M n p ↔ ∀ l ∈ kernP (RP M n) (JP M n) n, vec l p = 0 := by
  constructor
  · intro hk l hl
    exact (h.known_iff hp).1 hk _ (h.kern hl).1
  · intro hall
    have hz : ∀ f, f < n → f ∉ JP M n → vec (rawP (RP M n) (JP M n) n f) p = 0 := by
      intro f hf hfJ
      have hm : kerP (RP M n) (JP M n) n f ∈ kernP (RP M n) (JP M n) n := List.mem_map.2 ⟨f, List.mem_filter.2 ⟨by simpa using hf, by simpa using hfJ⟩, rfl⟩
      have := hall _ hm
      obtain ⟨g, hg, e⟩ := shortF_mul (rawP (RP M n) (JP M n) n f)
      have h1 := e p
      rw [show vec (shortF (rawP (RP M n) (JP M n) n f)) p = 0 from this, Int.mul_zero] at h1
      exact h1.symm
    have hpJ : p ∈ JP M n := Classical.byContradiction fun hn => by
      obtain ⟨t, ht, _, r1, _⟩ := h.raw hp hn
      have := hz p hp hn
      omega
    obtain ⟨k, hk, e⟩ := mem_jf hpJ
    refine ⟨k, hk, e, fun c hc hne => (h.re_zero hk hc).2 ?_⟩
    by_cases hcJ : c ∈ JP M n
    · obtain ⟨i, hilt, rfl⟩ := mem_jf hcJ
      exact (h.inv n).ech.red.off k hk i hilt (fun e2 => hne (by rw [← e, e2]))
    · obtain ⟨t, ht, _, _, _, r3⟩ := h.raw hc hcJ
      have h1 := hz c hc hcJ
      have h2 := r3 k hk
      rw [e, h1, Int.zero_mul] at h2
      rcases Int.mul_eq_zero.1 h2.symm with a | a
      · omega
      · omega

end
end Go.Proofs.Ytfipebkhomppmaa

namespace Go.Proofs.Ytfipebkhomppmaa
set_option linter.unusedVariables false

theorem timesP_snoc (R : List (List Int)) (f p : Nat) : ∀ (J : List Nat) (k : Nat) (t : Int), timesP R f (J ++ [p]) k t =
    timesP R f J k t * (nP (vec (R[k + J.length]?.getD []) p) (vec (R[k + J.length]?.getD []) f)).tdiv (Int.gcd (timesP R f J k t) (nP (vec (R[k + J.length]?.getD []) p) (vec (R[k + J.length]?.getD []) f)) : Nat)
  | [], k, t => rfl
  | q :: J, k, t => by
    show timesP R f (J ++ [p]) (k + 1) _ = _
    rw [timesP_snoc R f p J (k + 1), show k + 1 + J.length = k + (q :: J).length by simp; omega]
    rfl
theorem fillF_snoc (v : Nat → Nat → Int) (p : Nat) : ∀ (J : List Nat) (k : Nat) (h : List Int), fillF v (J ++ [p]) k h = (fillF v J k h).set p (v (k + J.length) p)
  | [], k, h => rfl
  | q :: J, k, h => by
    show fillF v (J ++ [p]) (k + 1) _ = _
    rw [fillF_snoc v p J (k + 1), show k + 1 + J.length = k + (q :: J).length by simp; omega]
    rfl

def kernTo (R : List (List Int)) (J : List Nat) (n t : Nat) : List (List Int) := ((List.range t).filter (fun f => !J.contains f)).map (kerP R J n)
theorem kernTo_succ_in {R : List (List Int)} {J : List Nat} {n t : Nat} (h : t ∈ J) : kernTo R J n (t + 1) = kernTo R J n t := by
  unfold kernTo; rw [List.range_succ, List.filter_append]; simp [h]
theorem kernTo_succ_out {R : List (List Int)} {J : List Nat} {n t : Nat} (h : t ∉ J) : kernTo R J n (t + 1) = kernTo R J n t ++ [kerP R J n t] := by
  unfold kernTo; rw [List.range_succ, List.filter_append]; simp [h]
theorem kernTo_all (R : List (List Int)) (J : List Nat) (n : Nat) : kernTo R J n n = kernP R J n := rfl
theorem kernTo_le (R : List (List Int)) (J : List Nat) (n t : Nat) : (kernTo R J n t).length ≤ t := by
  unfold kernTo; rw [List.length_map]
  have := List.length_filter_le (fun f => !J.contains f) (List.range t)
  rwa [List.length_range] at this

theorem MaskOk.times {M : List (List Int)} {n : Nat} (h : MaskOk M n) (f : Nat) {t : Nat} (ht : t ≤ (JP M n).length) :
    0 < timesP (RP M n) f ((JP M n).take t) 0 1 ∧ timesP (RP M n) f ((JP M n).take t) 0 1 ≤ 720 := by
  obtain ⟨d, d1, d2, hk⟩ := pRed_ok (n := n) h.wid h.le6 (fun r hr c _ => h.one r hr c)
  obtain ⟨a, b, _, _⟩ := timesP_facts (R := RP M n) (f := f) (d := d) ((JP M n).take t) 0 1 (by decide) (Int.one_dvd _) (fun i hi => by
    rw [List.length_take] at hi
    have h1 : i < (JP M n).length := by omega
    have := hk.piv i h1
    rw [Nat.zero_add]
    have e : jf ((JP M n).take t) i = jf (JP M n) i := by unfold jf; rw [List.getElem?_take_of_lt (by omega)]
    rw [e]; exact this)
  have h9 := Int.le_of_dvd (by omega) b
  exact ⟨a, by omega⟩
theorem MaskOk.pivx {M : List (List Int)} {n : Nat} (h : MaskOk M n) {i : Nat} (hi : i < (JP M n).length) : 0 < vec ((RP M n)[i]?.getD []) ((JP M n)[i]) ∧ vec ((RP M n)[i]?.getD []) ((JP M n)[i]) ≤ 720 ∧ (JP M n)[i] < n := by
  have h1 : 0 < rowv (RP M n) i (jf (JP M n) i) := ((h.inv n).pp i hi).2
  have e : jf (JP M n) i = (JP M n)[i] := by unfold jf; rw [List.getElem?_eq_getElem hi]; rfl
  rw [e] at h1
  exact ⟨h1, (h.rp_le i _).2, (h.inv n).lt _ (List.getElem_mem hi)⟩
theorem nP_le {x e : Int} (h0 : 0 < x) (h : x ≤ 720) : 0 < nP x e ∧ nP x e ≤ 720 := by
  obtain ⟨a, b, _⟩ := nP_facts (e := e) h0 (Int.dvd_refl x)
  have := Int.le_of_dvd h0 b
  exact ⟨a, by omega⟩

theorem MaskOk.raw_le {M : List (List Int)} {n : Nat} (h : MaskOk M n) {f : Nat} (hf : f < n) (hfJ : f ∉ JP M n) (c : Nat) : (vec (rawP (RP M n) (JP M n) n f) c).natAbs ≤ 518400 := by
  obtain ⟨t, ht, ht2, h1, h2, h3⟩ := h.raw hf hfJ
  by_cases hc : c ∈ JP M n
  · obtain ⟨i, hi, rfl⟩ := mem_jf hc
    have e := h3 i hi
    have hp : 0 < rowv (RP M n) i (jf (JP M n) i) := ((h.inv n).pp i hi).2
    have hb := h.rp_le i f
    have e2 := congrArg Int.natAbs e
    rw [Int.natAbs_mul, Int.natAbs_mul, Int.natAbs_neg] at e2
    have h5 : (vec (rawP (RP M n) (JP M n) n f) (jf (JP M n) i)).natAbs ≤ (rowv (RP M n) i f).natAbs * t.natAbs := by
      rw [← e2]; exact Nat.le_mul_of_pos_right _ (by omega)
    refine Nat.le_trans h5 ?_
    show _ ≤ 720 * 720
    exact Nat.mul_le_mul (by unfold rowv; omega) (by omega)
  · by_cases e : c = f
    · subst e; rw [h1]; omega
    · rw [h2 c hc e]; simp
theorem rawP_len (R : List (List Int)) (J : List Nat) (n f : Nat) : (rawP R J n f).length = n := by unfold rawP; rw [fillF_len]; simp
theorem kerP_len (R : List (List Int)) (J : List Nat) (n f : Nat) : (kerP R J n f).length = n := by unfold kerP; rw [shortF_len, rawP_len]

theorem MaskOk.bnd {M : List (List Int)} {n : Nat} (h : MaskOk M n) {t : Nat} (ht : t ≤ n) : ∀ r ∈ (pRed M t).1, r.length = n ∧ ∀ x ∈ r, -(720 : Int) ≤ x ∧ x ≤ 720 := by
  have := pRed_le (n := n) (Y := 1) h.wid h.le6 (fun r hr c _ => h.one r hr c) (fun r hr => mem_vec (P := fun x => -((1 : Nat) : Int) ≤ x ∧ x ≤ ((1 : Nat) : Int)) fun c => by have := h.one r hr c; omega) ht
  intro r hr
  obtain ⟨h1, h2⟩ := this r hr
  exact ⟨h1, fun x hx => by have := h2 x hx; omega⟩
end Go.Proofs.Ytfipebkhomppmaa

namespace Go.Proofs.Ytfipebkhomppmaa
open Go.RowKit
set_option linter.unusedVariables false

theorem indexV (w : World) (a : Option Addr) (n cap : Nat) (l : List Int) (hn : l.length = n) (hm : n ≤ maxLen) (H : IntsAt w a l) (x : Int) :
    Calls Try.prog 117 #[.slice a n cap, .int .i64 x] w fun e w' => e = .returned (.int .i64 (idxP (fun y => decide (y = x)) l 0)) ∧ w = w' := by
  have HN := hid hn
  have HH := hid H
  clear hn H
  unfold maxLen at hm
  go_enter Try.func117, Try.ntmps117
  go_wp2
  go_loop [8] (fun i => ∃ k : Nat, k ≤ n ∧ i = .int .i64 k ∧ Hid (∀ i y, i < k → l[i]? = some y → y ≠ x)) (fun i => n - (intOf i).toNat)
  case atStart => exact ⟨0, Nat.zero_le _, rfl, hid (fun i y h => by omega)⟩
  case round =>
    obtain ⟨k, hk, rfl, HNO⟩ := hrel
    by_cases hlt : k < n
    · have hkl : k < l.length := by rw [HN.out]; exact hlt
      obtain ⟨b, off, rfl, hbs, hc⟩ := HH.out k hkl
      have HK := hid (List.getElem?_eq_getElem hkl)
      have hg : l[k]?.getD 0 = l[k] := by rw [List.getElem?_eq_getElem hkl]; rfl
      rw [hg] at hc
      obtain ⟨y, hy⟩ : ∃ y, y = l[k] := ⟨_, rfl⟩
      rw [← hy] at hc HK
      clear hg hy hkl
      by_cases e : y = x
      · have hb : (x == y) = true := by simp [e]
        have HE := hid e
        clear e
        go_wp2
        go_ret
        refine ⟨ret_int ?_, rfl⟩
        rw [idxP_at (fun y => decide (y = x)) l 0 k y HK.out (by simpa using HE.out) (fun i z hi hz => by simpa using HNO.out i z hi hz)]; simp
      · have hb : (x == y) = false := by simp; omega
        have HE := hid e
        clear e
        go_wp2
        go_round
        case rel =>
          refine ⟨k + 1, by omega, by go_num, hid fun i z hi hz => ?_⟩
          by_cases e : i = k
          · subst e; rw [HK.out] at hz; cases hz; exact HE.out
          · exact HNO.out i z (by omega) hz
        case measure => simp [intOf]; omega
    · go_wp2
      go_ret
      refine ⟨ret_int ?_, rfl⟩
      rw [idxP_neg]
      intro z hz
      obtain ⟨i, hi, e⟩ := List.getElem_of_mem hz
      simpa using HNO.out i z (by have := HN.out; omega) (by rw [List.getElem?_eq_getElem hi, e])

theorem containsV (w : World) (a : Option Addr) (n cap : Nat) (l : List Int) (hn : l.length = n) (hm : n ≤ maxLen) (H : IntsAt w a l) (x : Int) :
    Calls Try.prog 62 #[.slice a n cap, .int .i64 x] w fun e w' => e = .returned (.bool (l.contains x)) ∧ w = w' := by
  have HC := hid (indexV w a n cap l hn hm H x)
  have HG := hid (idxP_ge (fun y => decide (y = x)) l 0)
  clear hn H
  go_enter Try.func62, Try.ntmps62
  go_wp2_with (go_at_call 117; refine HC.out.mono ?_; rintro e w1 ⟨rfl, rfl⟩)
  go_ret
  refine ⟨ret_bool ?_, rfl⟩
  rw [Bool.eq_iff_iff, decide_eq_true_iff, HG.out]
  simp [List.any_eq_true]

def intsJ (J : List Nat) : List Int := J.map (fun j : Nat => (j : Int))
theorem intsJ_len (J : List Nat) : (intsJ J).length = J.length := by simp [intsJ]
theorem intsJ_contains (J : List Nat) (f : Nat) : (intsJ J).contains (f : Int) = J.contains f := by
  rw [Bool.eq_iff_iff]
  unfold intsJ
  simp only [List.contains_iff_mem, List.mem_map]
  constructor
  · rintro ⟨x, hx, e⟩
    have : x = f := by omega
    subst this; exact hx
  · intro h; exact ⟨f, h, rfl⟩
theorem intsJ_vals (J : List Nat) : J.map (fun j : Nat => Value.int .i64 j) = (intsJ J).map (Value.int .i64) := by unfold intsJ; rw [List.map_map]; rfl

theorem ints_of_own {W : World} {base : Nat} {v : Value} {n : Nat} {l : List Int} (h : W.ownsRow base 3 1 v n (l.map (Value.int .i64))) (hn : l.length = n) : ∃ a c, v = .slice a n c ∧ IntsAt W a l ∧ n ≤ maxLen := by
  subst hn
  rcases h.2 with ⟨rfl, h0⟩ | ⟨g, cap, cur, rfl, hbg, hgg, hnc, hcm, hsz, htk⟩
  · exact ⟨none, 0, by rw [h0], fun j hj => by omega, by rw [h0]; decide⟩
  · refine ⟨_, cap, rfl, ?_, by omega⟩
    have := (ElemI.own (S := fun _ => True) (base := base) ⟨h.1, .inr ⟨g, cap, cur, rfl, hbg, hgg, hnc, hcm, hsz, htk⟩⟩ (show l.length ≤ maxLen by omega) (fun _ _ => trivial)).ints
    exact this.2.2

theorem sp_made_set (w : World) (k f : Nat) (T : Int) : SpRow (w.alloc (.cells ((madeCells #[.int .i64 0] k).setIfInBounds f (.int .i64 T)) 3)) w.heap.size ((List.replicate k 0).set f T) := by
  have e : madeCells #[Value.int .i64 0] k = ((List.replicate k (0 : Int)).map (Value.int .i64)).toArray := by
    apply Array.toList_inj.1
    rw [toList_madeCells_one]; simp
  refine ⟨[], ?_⟩
  rw [World.alloc_heap_new, e, List.append_nil]
  congr 2
  apply Array.toList_inj.1
  simp [List.map_set]

theorem row_cells {W : World} {g0 : Nat} {R : List (List Int)} (h : RowsAt W (some ⟨g0, 0, none⟩) R) {t n : Nat} (ht : t < R.length) (hw : ∀ r ∈ R, r.length = n) (hn : 1 ≤ n) :
    ∃ rb ro rc, W.cell? ⟨g0, t, none⟩ = some (.slice (some ⟨rb, ro, none⟩) n rc) ∧ ∀ c, c < n → W.cell? ⟨rb, ro + c, none⟩ = some (.int .i64 (vec (R[t]?.getD []) c)) := by
  obtain ⟨b, off, ra, n', rc, e, hlt, h0, hn', hm, hi⟩ := h t ht
  cases e
  have hl := hw _ (List.getElem_mem ht)
  obtain ⟨rb, ro, rfl, _, _⟩ := hi 0 (by omega)
  refine ⟨rb, ro, rc, ?_, fun c hc => ?_⟩
  · rw [Nat.zero_add] at h0; rw [h0, ← hn', hl]
  · obtain ⟨rb', ro', e, _, hx⟩ := hi c (by omega)
    cases e
    rw [hx, List.getElem?_eq_getElem ht]; rfl

set_option maxRecDepth 100000 in
set_option maxHeartbeats 8000000 in
theorem pkernel_c (w : World) (a : Option Addr) (n cap : Nat) (M : List (List Int)) (hn : M.length = n) (hn1 : 1 ≤ n) {W : Nat} (hM : MaskOk M W) (H : RowsAt w a M) (a2 : Option Addr) (k cap2 : Nat) (S : List Int) (hk : S.length = k) (hk1 : 1 ≤ k) (hk9 : k ≤ 1000) (H2 : IntsAt w a2 S)
    (hS : ∀ j ∈ S, 0 ≤ j ∧ j < (W : Int)) :
    Calls Try.prog 61 #[.slice a n cap, .slice a2 k cap2] w fun e w' => ∃ v base, e = .returned v ∧ w.heap.size ≤ base ∧ OwnM w' base v (kerSP M S) ∧ Below w.heap.size w w' := by
  have hn6 : n ≤ 6 := by rw [← hn]; exact hM.le6
  have HCh := hid (chosen_c w a n cap M hn (by omega) H a2 k cap2 S hk (by omega) H2 (fun r hr j hj => by rw [hM.wid r hr]; exact hS j hj) 80 #[] (enters_of Try.func80 (by kernel_rfl) rfl) (fun _ => []) (none_more w n) (fun i _ => ⟨by simp, by simp; omega⟩))
  rw [chosenF_none] at HCh
  have hC : MaskOk (colsF M S) k := by rw [← hk]; exact hM.cols S
  have hCl : (colsF M S).length = n := by rw [colsF_len, hn]
  have hker : kerSP M S = kernP (RP (colsF M S) k) (JP (colsF M S) k) k := by unfold kerSP; rw [hk]
  rw [hker]
  obtain ⟨C, hCe⟩ : ∃ C, C = colsF M S := ⟨_, rfl⟩
  rw [← hCe] at HCh hC hCl ⊢
  have HK2 := hid hk
  clear hker hCe hn H hk H2 hS hM
  have HRd := hid (fun (W1 : World) (base : Nat) (v0 : Value) (hO : OwnT W1 base W1.heap.size v0 C) (hb : base ≤ W1.heap.size) => reduce_c W1 base v0 C k hO hb hC.wid (by omega) (by omega) (by omega) k (Nat.le_refl _) (fun t ht r hr => ⟨(hC.bnd ht r hr).1, fun x hx => by have := (hC.bnd ht r hr).2 x hx; omega⟩))
  have hJK : (JP C k).length ≤ n := by rw [← hCl]; exact (hC.inv k).K_le
  have hRl : (RP C k).length = n := by rw [pRed_len, hCl]
  have hRw : ∀ r ∈ RP C k, r.length = k := fun r hr => (hC.bnd (Nat.le_refl k) r hr).1
  have HRP := hid (fun (t c : Nat) => hC.rp_le t c)
  have HTI := hid (fun (f t : Nat) (ht : t ≤ (JP C k).length) => hC.times f ht)
  have HPX := hid (fun (i : Nat) (hi : i < (JP C k).length) => hC.pivx hi)
  have HRAW := hid (fun (f : Nat) (hf : f < k) (hfJ : f ∉ JP C k) (c : Nat) => hC.raw_le hf hfJ c)
  have HRAWT := hid (fun (f : Nat) (hf : f < k) (hfJ : f ∉ JP C k) (i : Nat) (hi : i < (JP C k).length) => hC.rp_le i f)
  obtain ⟨R, hR⟩ : ∃ R, R = RP C k := ⟨_, rfl⟩
  obtain ⟨J, hJ⟩ : ∃ R, R = JP C k := ⟨_, rfl⟩
  have e1 : (pRed C k).1 = R := hR.symm
  have e2 : (pRed C k).2 = J := hJ.symm
  rw [e1, e2] at HRd
  rw [← hR] at hRl hRw HRP HTI HPX HRAW ⊢
  rw [← hJ] at hJK HTI HPX HRAW ⊢
  obtain ⟨K, hK⟩ : ∃ K, K = J.length := ⟨_, rfl⟩
  rw [← hK] at HRd hJK HTI
  have HKJ := hid hK
  have HRL := hid hRl
  have HRW := hid hRw
  clear e1 e2 hR hJ hK hRl hRw HRAWT hC hCl
  go_enter Try.func61, Try.ntmps61
  go_wp2_with (go_at_call 79; refine HCh.out.mono ?_; rintro e w1 ⟨v0, rfl, hO1, hb1⟩; refine Stop.of ?_)
  refine Stop.go ?_
  have HRd1 := hid (HRd.out w1 w.heap.size v0 (OwnT.of hO1) hb1.size)
  clear hO1 HRd HCh
  go_wp2_with (go_at_call 78; refine HRd1.out.mono ?_; rintro e w2 ⟨vJ, rfl, hJo, hT2, hb2⟩; refine Stop.of ?_)
  refine Stop.go ?_
  rw [intsJ_vals] at hJo
  obtain ⟨ja, jc, rfl, hJI, hJm⟩ := ints_of_own hJo (by rw [intsJ_len, HKJ.out])
  have hv0 : ∃ g0 c0, v0 = .slice (some ⟨g0, 0, none⟩) n c0 := by
    obtain ⟨g0, c0, _, _, e, _⟩ := hT2.at 0 (by rw [HRL.out]; omega)
    exact ⟨g0, c0, by rw [e, HRL.out]⟩
  obtain ⟨g0, c0, rfl⟩ := hv0
  have hRA := hT2.rowsAt HRL.out (fun r hr => by rw [HRW.out r hr]; unfold maxLen; omega)
  have HJI := hid hJI
  have HRA := hid hRA
  have HBW := hid (show Below w.heap.size w w2 from hb1.trans hb2)
  have hsz : w.heap.size ≤ w2.heap.size := by have := hb1.size; have := hb2.size; omega
  clear hJI hRA hJo hT2 hb1 hb2 HRd1
  go_wp2
  go_loopw [7, 25] (fun v i wr => ∃ f : Nat, f ≤ k ∧ i = .int .i64 f ∧ OwnM wr w2.heap.size v (kernTo R J k f) ∧ Below w2.heap.size w2 wr) (fun _ i _ => k - (intOf i).toNat)
  case atStart => exact ⟨0, Nat.zero_le _, rfl, OwnM.nil _ _, Below.refl _ _⟩
  case round =>
    obtain ⟨f, hf, rfl, ho, hbk⟩ := hrel
    obtain ⟨wo, hwo⟩ : ∃ wo, wo = wr := ⟨_, rfl⟩
    subst hwo
    by_cases hlt : f < k
    · have HO := hid ho
      have HBK := hid hbk
      have HJO := hid (HJI.out.below hbk)
      have HRO := hid (HRA.out.below hbk)
      have HCV := hid (containsV wo ja K jc (intsJ J) (by rw [intsJ_len, HKJ.out]) hJm (HJI.out.below hbk) (f : Int))
      rw [intsJ_contains] at HCV
      clear ho hbk
      cases hfJ : J.contains f
      · have hfn : f ∉ J := by simpa using hfJ
        rw [hfJ] at HCV
        have HFN := hid hfn
        clear hfJ hfn
        go_wp2_with (go_at_call 62; refine HCV.out.mono ?_; rintro e w3 ⟨rfl, rfl⟩)
        go_loopw [9, 33] (fun T i wr => ∃ t : Nat, t ≤ K ∧ i = .int .i64 t ∧ T = .int .i64 (timesP R f (J.take t) 0 1) ∧ Below wo.heap.size wo wr) (fun _ i _ => K - (intOf i).toNat)
        case atStart => exact ⟨0, Nat.zero_le _, rfl, rfl, Below.refl _ _⟩
        case round =>
          obtain ⟨t, ht, rfl, rfl, hbt⟩ := hrel
          by_cases hltt : t < K
          · have htJ : t < J.length := by rw [← HKJ.out]; exact hltt
            obtain ⟨jb, jo, rfl, _, hjc⟩ := (HJO.out.below hbt) t (by rw [intsJ_len]; exact htJ)
            obtain ⟨rb, ro, rc, hh, hcs⟩ := row_cells (HRO.out.below hbt) (t := t) (by rw [HRL.out]; omega) HRW.out hk1
            have hp0 := HPX.out t htJ
            have hsn := timesP_snoc R f J[t] (J.take t) 0 1
            rw [← List.take_succ_eq_append_getElem htJ, List.length_take, Nat.zero_add, show min t J.length = t by omega] at hsn
            obtain ⟨hT0, hT1⟩ := HTI.out f t ht
            obtain ⟨hT2, hT3⟩ := HTI.out f (t + 1) hltt
            have hjv : (intsJ J)[t]?.getD 0 = ((J[t] : Nat) : Int) := by unfold intsJ; rw [List.getElem?_map, List.getElem?_eq_getElem htJ]; rfl
            rw [hjv] at hjc
            obtain ⟨p, hp⟩ : ∃ p, p = J[t] := ⟨_, rfl⟩
            rw [← hp] at hp0 hsn hjc
            have c1 := hcs p hp0.2.2
            have c2 := hcs f hlt
            have hxb := HRP.out t f
            obtain ⟨x, hx⟩ : ∃ x, x = vec (R[t]?.getD []) p := ⟨_, rfl⟩
            obtain ⟨y, hy⟩ : ∃ x, x = vec (R[t]?.getD []) f := ⟨_, rfl⟩
            rw [← hx] at c1 hp0 hsn
            rw [← hy] at c2 hxb hsn
            obtain ⟨hx1, hx2, hpk⟩ := hp0
            obtain ⟨T, hT⟩ : ∃ T, T = timesP R f (J.take t) 0 1 := ⟨_, rfl⟩
            rw [← hT] at hT0 hT1 hsn ⊢
            rw [hsn] at hT2 hT3
            have HSN := hid hsn
            obtain ⟨hn1', hn2'⟩ := nP_le (e := y) hx1 hx2
            have HD1 := hid (fun (W : World) => divisor_c W x y (by omega) (by omega))
            have HNP := hid (show nP x y = x.tdiv (Int.gcd x y : Nat) from rfl)
            have hg0 : 0 < ((Int.gcd x y : Nat) : Int) := by
              have : 0 < Int.gcd x y := Int.gcd_pos_of_ne_zero_left _ (by omega)
              omega
            obtain ⟨g, hg⟩ : ∃ g : Int, g = (Int.gcd x y : Nat) := ⟨_, rfl⟩
            rw [← hg] at HD1 HNP hg0
            have hgz : ¬ (g = 0) := by omega
            have hw1 : IntKind.i64.wrap (x.tdiv g) = x.tdiv g := by rw [← HNP.out]; exact IntWalk.i64_in _ (by omega)
            obtain ⟨N', hN'⟩ : ∃ N', N' = nP x y := ⟨_, rfl⟩
            rw [← hN'] at hn1' hn2' hT2 hT3 HNP HSN
            have HD2 := hid (fun (W : World) => divisor_c W T N' (by omega) (by omega))
            have hg20 : 0 < ((Int.gcd T N' : Nat) : Int) := by
              have : 0 < Int.gcd T N' := Int.gcd_pos_of_ne_zero_left _ (by omega)
              omega
            obtain ⟨g2, hg2⟩ : ∃ g : Int, g = (Int.gcd T N' : Nat) := ⟨_, rfl⟩
            rw [← hg2] at HD2 hg20 hT2 hT3 HSN
            have hgz2 : ¬ (g2 = 0) := by omega
            have htd := tdiv_bnd (show 1 ≤ g2 by omega) (show -(720 : Int) ≤ N' ∧ N' ≤ 720 by omega)
            have hw2 : IntKind.i64.wrap (N'.tdiv g2) = N'.tdiv g2 := IntWalk.i64_in _ (by omega)
            have hw3 : IntKind.i64.wrap (T * N'.tdiv g2) = T * N'.tdiv g2 := IntWalk.i64_in _ (by omega)
            have hNe : x.tdiv g = N' := HNP.out.symm
            have i1 : (0 : Int) ≤ (t : Int) := by omega
            have i2 : (t : Int) < (n : Int) := by omega
            have i3 : (0 : Int) ≤ (p : Int) := by omega
            have i4 : (p : Int) < (k : Int) := by omega
            have i5 : (0 : Int) ≤ (f : Int) := by omega
            have i6 : (f : Int) < (k : Int) := by omega
            have i7 : (t : Int) < (K : Int) := by omega
            have HBT := hid hbt
            clear hjv hp hx hy hT hsn hg hN' hg2 hcs htJ hbt
            go_wp2
            go_quiet ((go_at_call 76; exact Calls.quiet_of (HD1.out _)))
            go_wp2_with (go_at_call 76; refine (HD2.out _).mono ?_; rintro e w4 ⟨rfl, q4, rfl⟩)
            exact ⟨⟨t + 1, by omega, by go_num, by rw [HSN.out], below_drewN HBT.out _⟩, by simp [intOf]; omega⟩
          · obtain rfl : t = K := by omega
            have e : J.take t = J := List.take_of_length_le (by rw [HKJ.out]; exact Nat.le_refl _)
            obtain ⟨hT0, hT1⟩ := HTI.out f t (Nat.le_refl _)
            rw [e] at hT0 hT1 ⊢
            obtain ⟨T, hT⟩ : ∃ T, T = timesP R f J 0 1 := ⟨_, rfl⟩
            rw [← hT] at hT0 hT1 ⊢
            have HTT := hid hT
            have HB5 := hid hbt
            obtain ⟨w5, hw5⟩ : ∃ w5, w5 = wr := ⟨_, rfl⟩
            subst hw5
            have hmk : ∀ w, (Instr.makeSlice 31 (.int .i64 (k : Int)) (.int .i64 (k : Int))).run Try.prog w = .ok (.slice (some ⟨w.heap.size, 0, none⟩) k k) (w.alloc (.cells (madeCells #[.int .i64 0] k) 3)) :=
              fun w => run_make_row' 31 3 (.int .i64 0) 8 Try.underlying31 li_int rfl .i64 .i64 k (by omega) (by omega) w
            obtain ⟨h0, hh0⟩ : ∃ h0, h0 = (List.replicate k (0 : Int)).set f T := ⟨_, rfl⟩
            have hh0l : h0.length = k := by rw [hh0]; simp
            obtain ⟨w7, hw7⟩ : ∃ w7, w7 = w5.alloc (.cells ((madeCells #[.int .i64 0] k).setIfInBounds f (.int .i64 T)) 3) := ⟨_, rfl⟩
            have hr7 : SpRow w7 w5.heap.size h0 := by rw [hw7, hh0]; exact sp_made_set w5 k f T
            have hb7 : Below w5.heap.size w5 w7 := by rw [hw7]; exact (Below.refl _ _).alloc (Nat.le_refl _) _
            have hs7 : w7.heap.size = w5.heap.size + 1 := by rw [hw7]; simp
            have i5 : (0 : Int) ≤ (f : Int) := by omega
            have i6 : (f : Int) < (k : Int) := by omega
            have HSET6 := hid hr7
            have HH0 := hid hh0
            have HW7 := hid hw7
            have HB7 := hid hb7
            have HL0 := hid hh0l
            clear e hT hbt hh0 hr7 hb7 hw7 hh0l
            have hmsz : (madeCells #[Value.int .i64 0] k).size = k := by rw [size_madeCells]
            go_wp2
            rw [← HW7.out]
            clear hmk hmsz
            go_loopw [78] (fun i wr => ∃ s : Nat, s ≤ t ∧ i = .int .i64 s ∧ SpRow wr w5.heap.size (fillF (valP R f T) (J.take s) 0 h0) ∧ Keep (fun q => q ≠ w5.heap.size) w7 wr) (fun i _ => t - (intOf i).toNat)
            case atStart => exact ⟨0, Nat.zero_le _, rfl, HSET6.out, Keep.refl _ _⟩
            case round =>
              obtain ⟨s, hs, rfl, hr, hkp⟩ := hrel
              have hb57 : Below w5.heap.size w5 wr := hkp.below HB7.out (by omega) (fun q hq => by omega)
              have hbo := chain HB5.out hb57
              by_cases hlts : s < t
              · have htJ : s < J.length := by rw [← HKJ.out]; exact hlts
                obtain ⟨jb, jo, rfl, _, hjc⟩ := (HJO.out.below hbo) s (by rw [intsJ_len]; exact htJ)
                obtain ⟨rb, ro, rc, hh, hcs⟩ := row_cells (HRO.out.below hbo) (t := s) (by rw [HRL.out]; omega) HRW.out hk1
                have hp0 := HPX.out s htJ
                have hsn := fillF_snoc (valP R f T) J[s] (J.take s) 0 h0
                rw [← List.take_succ_eq_append_getElem htJ, List.length_take, Nat.zero_add, show min s J.length = s by omega] at hsn
                have hjv : (intsJ J)[s]?.getD 0 = ((J[s] : Nat) : Int) := by unfold intsJ; rw [List.getElem?_map, List.getElem?_eq_getElem htJ]; rfl
                rw [hjv] at hjc
                obtain ⟨p, hp⟩ : ∃ p, p = J[s] := ⟨_, rfl⟩
                rw [← hp] at hp0 hsn hjc
                have c1 := hcs p hp0.2.2
                have c2 := hcs f hlt
                have hxb := HRP.out s f
                have hval : valP R f T s p = (-(vec (R[s]?.getD []) f) * T).tdiv (vec (R[s]?.getD []) p) := rfl
                obtain ⟨x, hx⟩ : ∃ x, x = vec (R[s]?.getD []) p := ⟨_, rfl⟩
                obtain ⟨y, hy⟩ : ∃ x, x = vec (R[s]?.getD []) f := ⟨_, rfl⟩
                rw [← hx] at c1 hp0 hval
                rw [← hy] at c2 hxb hval
                rw [hval] at hsn
                obtain ⟨hx1, hx2, hpk⟩ := hp0
                have hlenF : (fillF (valP R f T) (J.take s) 0 h0).length = k := by rw [fillF_len, HL0.out]
                have c3 := hr.cell (j := p) (by rw [hlenF]; exact hpk)
                obtain ⟨z3, hz3⟩ : ∃ z, z = (fillF (valP R f T) (J.take s) 0 h0)[p]?.getD 0 := ⟨_, rfl⟩
                rw [← hz3] at c3
                have c4 := hr.frozen p
                have HSET := hid (fun (X : World) (hX : X.heap[w5.heap.size]? = wr.heap[w5.heap.size]?) v => (hr.keep hX).set p (by rw [hlenF]; exact hpk) v)
                have hgs := hr.lt
                have HSN := hid hsn
                have HKP := hid hkp
                have pm := mul_bnd (show -(720 : Int) ≤ -y ∧ -y ≤ 720 by omega) (show -(720 : Int) ≤ T ∧ T ≤ 720 by omega)
                have td := tdiv_bnd (show 1 ≤ x by omega) (show -(518400 : Int) ≤ -y * T ∧ -y * T ≤ 518400 by omega)
                have wn : IntKind.i64.wrap (-y) = -y := IntWalk.i64_in _ (by omega)
                have wm : IntKind.i64.wrap (-y * T) = -y * T := IntWalk.i64_in _ (by omega)
                have wq : IntKind.i64.wrap ((-y * T).tdiv x) = (-y * T).tdiv x := IntWalk.i64_in _ (by omega)
                have hxz : ¬ (x = 0) := by omega
                have i1 : (0 : Int) ≤ (s : Int) := by omega
                have i2 : (s : Int) < (n : Int) := by omega
                have i3 : (0 : Int) ≤ (p : Int) := by omega
                have i4 : (p : Int) < (k : Int) := by omega
                have i7 : (s : Int) < (t : Int) := by omega
                clear hjv hp hx hy hsn hcs htJ hval hlenF hz3 hr hkp hb57 hbo pm td
                go_wp2
                go_still_tail 21, (by kernel_rfl)
                change wpList _ _ _ _ _ wr.drew
                go_wp2
                refine ⟨⟨s + 1, by omega, by go_num, ?_, (HKP.out.drewN 1).trans (Keep.set wr.drew w5.heap.size p _)⟩, by simp [intOf]; omega⟩
                rw [HSN.out]
                exact HSET.out wr.drew rfl _
              · obtain rfl : s = t := by omega
                have e : J.take s = J := List.take_of_length_le (by rw [HKJ.out]; exact Nat.le_refl _)
                rw [e] at hr
                have hraw : fillF (valP R f T) J 0 h0 = rawP R J k f := by unfold rawP; rw [HH0.out, HTT.out]
                rw [hraw] at hr
                have hbR : BndL 4611686018427387904 (rawP R J k f) := by
                  refine mem_vec (P := fun x => -((4611686018427387904 : Nat) : Int) ≤ x ∧ x ≤ ((4611686018427387904 : Nat) : Int)) fun c => ?_
                  have := HRAW.out f hlt HFN.out c
                  omega
                have HSH := hid (shortened_c wr w5.heap.size k k (rawP R J k f) (rawP_len R J k f) (by unfold maxLen; omega) hr hbR)
                have HBO := hid hbo
                have HB57 := hid hb57
                clear e hraw hr hbR hkp hb57 hbo
                go_wp2_with (go_at_call 116; refine HSH.out.mono ?_; rintro e w8 ⟨rfl, hs8, hk8⟩; refine Stop.of ?_)
                refine Stop.go ?_
                have hbo8 : Below wo.heap.size wo w8 := by
                  have h1 := HBO.out
                  have h2 := HB5.out.size
                  exact hk8.below h1 h1.size (fun q hq => by omega)
                obtain ⟨X, hX⟩ : ∃ X, X = kerP R J k f := ⟨_, rfl⟩
                have hXs : shortF (rawP R J k f) = X := hX.symm
                have hXl : X.length = k := by rw [hX, kerP_len]
                rw [hXs] at hs8
                have hkt := kernTo_succ_out (R := R) (n := k) HFN.out
                rw [← hX] at hkt
                have hle := kernTo_le R J k f
                obtain ⟨Kt, hKt⟩ : ∃ Kt, Kt = kernTo R J k f := ⟨_, rfl⟩
                have HO' := HO.out
                rw [← hKt] at hkt hle HO'
                obtain ⟨g', vs, ho, hin, he⟩ := HO'
                obtain ⟨m, hm⟩ : ∃ m, m = Kt.length := ⟨_, rfl⟩
                rw [← hm] at ho hle
                obtain ⟨va, vc, rfl⟩ := ownsRow_slice ho
                have hb2a : Below wo.heap.size wo (w8.alloc (.cells #[.slice (some ⟨w5.heap.size, 0, none⟩) k k] 31)) := hbo8.alloc hbo8.size _
                have M1 := hid (show m + 1 ≤ maxLen by unfold maxLen; omega)
                have M2 := hid (show (m + 1) * 24 ≤ 140737488355328 by omega)
                have M3 := hid (Nat.le_trans HBK.out.size hb2a.size)
                have HO2' := hid (own_below ho hb2a)
                have HE := hid he
                have HIN := hid hin
                have HSR2 := hid hs8
                have HB2' := hid hb2a
                have HOO := hid ho
                have HML := hid hm
                have HXL := hid hXl
                have HKT := hid hkt
                have hg5 : wo.heap.size ≤ w5.heap.size := HB5.out.size
                clear he hin hs8 hb2a ho hX hXs hXl hkt hle hKt hm hk8 hbo8
                go_wp2_with (at_builtin; refine wpList_app _ rfl (.tmp 107) (.tmp 109) 22 rfl w2.heap.size 31 (.slice none 0 0) 1 24 Try.underlying22 li_ints rfl Nat.one_pos (.slice va m vc) m vs rfl HO2'.out (some ⟨w8.heap.size, 0, none⟩) 1 1 [.slice (some ⟨w5.heap.size, 0, none⟩) k k] rfl rfl no_none (one_news w8 _ _) (slice_oneCell _ _ _) M1.out M2.out M3.out ?_; refine Stop.of ?_)
                refine Stop.go ?_
                intro a5 c5 w9 own5 g5
                have hsn9 : OwnM w9 w2.heap.size (.slice a5 (m + 1) c5) (Kt ++ [X]) := by
                  have own5' : w9.ownsRow w2.heap.size 31 1 (.slice a5 (m + 1) c5) (Kt.length + 1) (vs ++ [.slice (some ⟨w5.heap.size, 0, none⟩) X.length k]) := by rw [← HML.out, HXL.out]; exact own5
                  exact OwnM.snoc (by rw [← HML.out]; exact HOO.out) HIN.out HE.out HB2'.out (HSR2.out.keep (Below.heap_alloc _ _ _ HSR2.out.lt)) hg5 (Nat.le_of_eq HXL.out) HBK.out.size g5 own5'
                have hB9 : Below w2.heap.size w2 w9 := (HBK.out.trans (HB2'.out.mono HBK.out.size)).grown g5 M3.out (fun q hq => (HO2'.out.lt q hq).1)
                rw [← HKT.out] at hsn9
                go_wp2
                exact ⟨⟨f + 1, by omega, by go_num, hsn9, hB9⟩, by simp [intOf]; omega⟩
      · have hfi : f ∈ J := by simpa using hfJ
        rw [hfJ] at HCV
        have HKT := hid (kernTo_succ_in (R := R) (n := k) hfi)
        clear hfJ hfi
        go_wp2_with (go_at_call 62; refine HCV.out.mono ?_; rintro e w3 ⟨rfl, rfl⟩)
        exact ⟨⟨f + 1, by omega, by go_num, by rw [HKT.out]; exact HO.out, HBK.out⟩, by simp [intOf]; omega⟩
    · obtain rfl : f = k := by omega
      rw [kernTo_all] at ho
      go_wp2
      go_ret
      exact ⟨_, w2.heap.size, rfl, hsz, ho, HBW.out.trans (hbk.mono hsz)⟩
end Go.Proofs.Ytfipebkhomppmaa

namespace Go.Proofs.Ytfipebkhomppmaa
open Go.RowKit
set_option linter.unusedVariables false

theorem region_cut {P : Program} {c : Code} {Q : Exit → Act → World → Prop} {a : Act} {w : World} (R : Act → Act → World → Prop) (h1 : c.wp P (fun e a' w' => e = .normal ∧ R a a' w') a w) (h2 : ∀ a' w', R a a' w' → Q .normal a' w') : c.wp P Q a w :=
  Code.wp_mono (fun e a' w' ⟨he, hr⟩ => by subst he; exact h2 a' w' hr) h1

theorem prim1 (w : World) : PredI Try.prog 119 #[] w (fun n => decide (n ≠ 0)) := by
  intro x W hb
  by_cases e : x = 0
  · subst e
    go_enter Try.func119, Try.ntmps119
    go_wp2
    go_ret
    exact ⟨rfl, Below.refl _ _⟩
  · have hd : (x == 0) = false := by simpa using e
    have HE := hid e
    clear e
    go_enter Try.func119, Try.ntmps119
    go_wp2
    go_ret
    exact ⟨ret_bool (by have := HE.out; simp [this]), Below.refl _ _⟩

theorem firstNz_zero : ∀ {l : List Int}, (∀ x ∈ l, x = 0) → firstNz l = 0
  | [], _ => rfl
  | x :: l, h => by unfold firstNz; rw [if_pos (h x (by simp))]; exact firstNz_zero fun y hy => h y (by simp [hy])

theorem idx_nz (l : List Int) : (idxP (fun n => decide (n ≠ 0)) l 0 = -1 ∧ firstNz l = 0) ∨ ∃ k : Nat, k < l.length ∧ idxP (fun n => decide (n ≠ 0)) l 0 = (k : Int) ∧ firstNz l = l[k]?.getD 0 := by
  rw [idxP_find]
  cases h : l.findIdx? (fun n => decide (n ≠ 0)) with
  | none =>
    left
    refine ⟨rfl, firstNz_zero fun x hx => ?_⟩
    have := List.findIdx?_eq_none_iff.1 h x hx
    simpa using this
  | some k =>
    right
    obtain ⟨h1, h2, h3⟩ := List.findIdx?_eq_some_iff_getElem.1 h
    refine ⟨k, h1, by simp, ?_⟩
    have hv : ∀ j (hj : j < l.length), vec l j = l[j] := fun j hj => vec_lt hj
    have := firstNz_at (l := l) (i := k) (fun j hj => by
      rw [hv j (by omega)]
      have := h3 j hj
      simpa using this) (by rw [hv k h1]; simpa using h2)
    rw [this]; rfl

set_option maxRecDepth 100000 in
set_option maxHeartbeats 4000000 in
theorem primitive_c (w : World) (b n cap : Nat) (l : List Int) (hn : l.length = n) (hm : n ≤ maxLen) (H : SpRow w b l) (hB : BndL 4611686018427387904 l) :
    Calls Try.prog 63 #[.slice (some ⟨b, 0, none⟩) n cap] w fun e w' => e = .returned (.slice (some ⟨b, 0, none⟩) n cap) ∧ SpRow w' b (primV l) ∧ Keep (fun k => k ≠ b) w w' := by
  have HS := hid (shortened_c w b n cap l hn hm H hB)
  have hsl : (shortF l).length = n := by rw [shortF_len, hn]
  have hsb : BndL 4611686018427387904 (shortF l) := by
    refine mem_vec (P := fun x => -((4611686018427387904 : Nat) : Int) ≤ x ∧ x ≤ ((4611686018427387904 : Nat) : Int)) fun c => ?_
    have h1 := shortF_le l c
    have h2 := vec_mem (P := fun x => -((4611686018427387904 : Nat) : Int) ≤ x ∧ x ≤ ((4611686018427387904 : Nat) : Int)) (by omega) hB c
    omega
  have hp : primV l = if firstNz (shortF l) < 0 then negF (shortF l) else shortF l := rfl
  rw [hp]
  obtain ⟨s, hs⟩ : ∃ s, s = shortF l := ⟨_, rfl⟩
  rw [← hs] at HS hsl hsb ⊢
  have HSL := hid hsl
  have HSB := hid hsb
  have hm9 := hm
  unfold maxLen at hm9
  clear hn H hB hs hp hsl hsb
  rcases idx_nz s with ⟨hi, hf⟩ | ⟨k, hks, hi, hf⟩
  · rw [hf]
    have HIX := hid hi
    clear hi hf
    go_enter Try.func63, Try.ntmps63
    go_wp2_with (go_at_call 116; refine HS.out.mono ?_; rintro e w1 ⟨rfl, hr1, hk1⟩; refine Stop.of ?_)
    refine Stop.go ?_
    have HI := hid (indexI w1 (some ⟨b, 0, none⟩) n cap s HSL.out hm hr1.ints 119 #[] _ (enters_of Try.func119 (by kernel_rfl) rfl) (prim1 w1))
    rw [HIX.out] at HI
    have HR1 := hid hr1
    have HK1 := hid hk1
    clear hr1 hk1 HS
    go_wp2_with (go_at_call 118; refine HI.out.mono ?_; rintro e w2 ⟨rfl, hb2⟩)
    go_ret
    exact ⟨rfl, HR1.out.keep (hb2.block b HR1.out.lt), HK1.out.trans (Keep.of_below hb2)⟩
  · rw [hf]
    obtain ⟨x, hx⟩ : ∃ x, x = s[k]?.getD 0 := ⟨_, rfl⟩
    rw [← hx]
    have hkn : k < n := by rw [← HSL.out]; exact hks
    have i1 : (0 : Int) ≤ (k : Int) := by omega
    have i2 : (k : Int) < (n : Int) := by omega
    have HIX := hid hi
    have HX := hid hx
    have HKS := hid hks
    clear hi hf hx hks
    by_cases hxn : x < 0
    · rw [if_pos hxn]
      have hd : decide (x < 0) = true := decide_eq_true hxn
      clear hxn
      go_enter Try.func63, Try.ntmps63
      go_wp2_with (go_at_call 116; refine HS.out.mono ?_; rintro e w1 ⟨rfl, hr1, hk1⟩; refine Stop.of ?_)
      refine Stop.go ?_
      have HI := hid (indexI w1 (some ⟨b, 0, none⟩) n cap s HSL.out hm hr1.ints 119 #[] _ (enters_of Try.func119 (by kernel_rfl) rfl) (prim1 w1))
      rw [HIX.out] at HI
      have hc1 := hr1.cell HKS.out
      rw [← HX.out] at hc1
      have hlt1 := hr1.lt
      have HR1 := hid hr1
      have HK1 := hid hk1
      clear hr1 hk1 HS
      go_wp2_with (go_at_call 118; refine HI.out.mono ?_; rintro e w2 ⟨rfl, hb2⟩; refine Stop.of ?_)
      refine Stop.go ?_
      have hc2 : w2.cell? ⟨b, k, none⟩ = some (.int .i64 x) := (hb2.cell (p := ⟨b, k, none⟩) hlt1).trans hc1
      have HR2 := hid (HR1.out.keep (hb2.block b HR1.out.lt))
      have HK2 := hid (HK1.out.trans (Keep.of_below hb2))
      clear HI hb2 hc1 HR1 HK1
      go_wp2
      go_loopw [20] (fun i wr => ∃ t : Nat, t ≤ n ∧ i = .int .i64 t ∧ SpRow wr b (halfF (fun x => -x) s t) ∧ Keep (fun k => k ≠ b) w2 wr) (fun i _ => n - (intOf i).toNat)
      case atStart => exact ⟨0, Nat.zero_le _, rfl, by rw [halfF_zero]; exact HR2.out, Keep.refl _ _⟩
      case round =>
        obtain ⟨t, ht, rfl, hr, hkp⟩ := hrel
        by_cases hltt : t < n
        · have htl : t < s.length := by rw [HSL.out]; exact hltt
          have d2 := hr.cell (j := t) (by rw [halfF_len]; exact htl)
          rw [halfF_at _ htl] at d2
          have hz := hr.frozen t
          have hbd := HSB.out.get htl
          have hst := halfF_set (fun x => -x) htl
          have HSET := hid (fun (X : World) (hX : X.heap[b]? = wr.heap[b]?) v => (hr.keep hX).set t (by rw [halfF_len]; exact htl) v)
          have hgs := hr.lt
          obtain ⟨y, hy⟩ : ∃ y, y = s[t]?.getD 0 := ⟨_, rfl⟩
          rw [← hy] at d2 hbd hst
          have HST := hid hst
          have HKP := hid hkp
          have hwn : IntKind.i64.wrap (-y) = -y := IntWalk.i64_in _ (by omega)
          have ht0 : (0 : Int) ≤ (t : Int) := by omega
          have ht1 : (t : Int) < (n : Int) := by omega
          clear hr hkp hst hy htl hc2 i1 i2
          go_wp2
          refine ⟨⟨t + 1, by omega, by go_num, ?_, HKP.out.trans (Keep.set wr b t _)⟩, by simp [intOf]; omega⟩
          rw [← HST.out]
          exact HSET.out wr rfl _
        · obtain rfl : t = n := by omega
          go_wp2
          go_ret
          rw [← HSL.out, halfF_all] at hr
          exact ⟨rfl, hr, HK2.out.trans hkp⟩
    · rw [if_neg hxn]
      have hd : decide (x < 0) = false := decide_eq_false hxn
      clear hxn
      go_enter Try.func63, Try.ntmps63
      go_wp2_with (go_at_call 116; refine HS.out.mono ?_; rintro e w1 ⟨rfl, hr1, hk1⟩; refine Stop.of ?_)
      refine Stop.go ?_
      have HI := hid (indexI w1 (some ⟨b, 0, none⟩) n cap s HSL.out hm hr1.ints 119 #[] _ (enters_of Try.func119 (by kernel_rfl) rfl) (prim1 w1))
      rw [HIX.out] at HI
      have hc1 := hr1.cell HKS.out
      rw [← HX.out] at hc1
      have hlt1 := hr1.lt
      have HR1 := hid hr1
      have HK1 := hid hk1
      clear hr1 hk1 HS
      go_wp2_with (go_at_call 118; refine HI.out.mono ?_; rintro e w2 ⟨rfl, hb2⟩; refine Stop.of ?_)
      refine Stop.go ?_
      have hc2 : w2.cell? ⟨b, k, none⟩ = some (.int .i64 x) := (hb2.cell (p := ⟨b, k, none⟩) hlt1).trans hc1
      have HR2 := hid (HR1.out.keep (hb2.block b HR1.out.lt))
      have HK2 := hid (HK1.out.trans (Keep.of_below hb2))
      clear HI hb2 hc1 HR1 HK1
      go_wp2
      go_ret
      exact ⟨rfl, HR2.out, HK2.out⟩

theorem okM_ok {M : Mask} (h : okM M = true) : MaskOk M (colsM M) ∧ 1 ≤ M.length ∧ M.length ≤ 6 ∧ 1 ≤ colsM M ∧ colsM M ≤ 10 := by
  unfold okM inB at h
  simp only [Bool.and_eq_true, decide_eq_true_eq, List.all_eq_true] at h
  obtain ⟨⟨h1, h2⟩, h3⟩ := h
  have hr : ∀ r ∈ M, r.length = colsM M ∧ (1 ≤ r.length ∧ r.length ≤ 10) ∧ ∀ x ∈ r, -1 ≤ x ∧ x ≤ 1 := fun r hr => by
    have h4 := h3 r hr
    unfold okMRow inB at h4
    simp only [Bool.and_eq_true, decide_eq_true_eq, List.all_eq_true] at h4
    obtain ⟨h5, ⟨h6, h7⟩, h8⟩ := h4
    exact ⟨h5, ⟨by omega, by omega⟩, h8⟩
  have h0 : M.length ≠ 0 := by omega
  have hm0 : M[0]'(by omega) ∈ M := List.getElem_mem _
  obtain ⟨k1, k2, _⟩ := hr _ hm0
  refine ⟨⟨fun r hr' => (hr r hr').1, by omega, fun r hr' c => vec_mem (P := fun x => -1 ≤ x ∧ x ≤ 1) (by decide) (hr r hr').2.2 c⟩, by omega, by omega, by omega, by omega⟩

theorem cols_all {M : List (List Int)} {n : Nat} (h : ∀ r ∈ M, r.length = n) : colsF M (allI n) = M := by
  unfold colsF
  conv => rhs; rw [← List.map_id M]
  refine List.map_congr_left fun r hr => ?_
  refine List.ext_getElem (by simp [allI, h r hr]) fun i h1 h2 => ?_
  simp only [allI, List.getElem_map, List.getElem_range, id]
  simp only [Int.toNat_natCast]
  exact vec_lt _

theorem allI_mem {n : Nat} {j : Int} (h : j ∈ allI n) : 0 ≤ j ∧ j < (n : Int) := by
  unfold allI at h
  obtain ⟨i, hi, rfl⟩ := List.mem_map.1 h
  have := List.mem_range.1 hi
  omega

theorem rows_head {w : World} {a : Option Addr} {M : Mask} (H : RowsAt w a M) (h0 : 0 < M.length) :
    ∃ b off ra rc, a = some ⟨b, off, none⟩ ∧ b < w.heap.size ∧ w.cell? ⟨b, off, none⟩ = some (.slice ra (colsM M) rc) := by
  obtain ⟨b, off, ra, rn, rc, rfl, hb, hc, hn, _, _⟩ := H 0 h0
  refine ⟨b, off, ra, rc, rfl, hb, ?_⟩
  have e : colsM M = rn := by unfold colsM; rw [List.getElem?_eq_getElem h0]; exact hn
  rw [e]; simpa using hc

set_option maxHeartbeats 1000000 in
theorem lkernel_c (w : World) (a : Option Addr) (n cap : Nat) (M : Mask) (hn : M.length = n) (hm : n ≤ maxLen) (H : RowsAt w a M) :
    Calls Try.prog 25 #[.slice a n cap] w fun e w' => ∃ v base, w.heap.size ≤ base ∧ Below w.heap.size w w' ∧
      ((okM M = false ∧ e = .returned (.tuple #[.slice none 0 0, .int .i64 1])) ∨ (okM M = true ∧ e = .returned (.tuple #[v, .int .i64 0]) ∧ OwnM w' base v (kerSP M (allI (colsM M))))) := by
  have HV := hid (maskValid_c w a n cap M hn hm H)
  cases hok : okM M
  · rw [hok] at HV
    clear hn H
    go_enter Try.func25, Try.ntmps25
    go_wp2_with (go_at_call 69; refine HV.out.mono ?_; rintro e w1 ⟨rfl, hb1⟩)
    go_ret2
    exact ⟨.slice none 0 0, w.heap.size, Nat.le_refl _, hb1, .inl ⟨by first | trivial | rfl, rfl⟩⟩
  · rw [hok] at HV
    obtain ⟨hM, h1, h6, hc1, hc10⟩ := okM_ok hok
    obtain ⟨b, off, ra, rc, rfl, hb, hc⟩ := rows_head H (by omega)
    have HR := hid H
    have HN := hid hn
    have HM := hid hM
    have hn0 : 0 < n := by omega
    obtain ⟨W, hW⟩ : ∃ W, W = colsM M := ⟨_, rfl⟩
    rw [← hW] at hc hc1 hc10 HM ⊢
    clear hn H hM hok hW
    go_enter Try.func25, Try.ntmps25
    go_wp2_with (go_at_call 69; refine HV.out.mono ?_; rintro e w1 ⟨rfl, hb1⟩; refine Stop.of ?_)
    refine Stop.go ?_
    have hc' : w1.cell? ⟨b, off, none⟩ = some (.slice ra W rc) := (hb1.cell (p := ⟨b, off, none⟩) hb).trans hc
    have HRR := hid (HR.out.below hb1)
    go_wp2_with (go_at_call 70; refine (all_c _ W (by omega)).mono ?_; rintro e w2 ⟨v, rfl, ho2, hb2⟩; refine Stop.of ?_)
    refine Stop.go ?_
    obtain ⟨va, vc, rfl, hi2, hm2⟩ := ints_of_own ho2 (allI_len W)
    have HR2 := hid (HRR.out.below hb2)
    have HI2 := hid hi2
    clear hi2 ho2
    go_wp2_with (go_at_call 61; refine (pkernel_c w2 _ n cap M HN.out (by omega) HM.out HR2.out va W vc (allI W) (allI_len W) hc1 (by omega) HI2.out (fun j hj => allI_mem hj)).mono ?_; rintro e w3 ⟨v3, base3, rfl, hbs3, hO3, hb3⟩; refine Stop.of ?_)
    refine Stop.go ?_
    have hbw := chain (chain hb1 hb2) hb3
    have hbs : w.heap.size ≤ base3 := by have := hb1.size; have := hb2.size; omega
    have HO3 := hid hO3
    clear hO3
    go_wp2
    go_ret2
    exact ⟨v3, base3, hbs, hbw, .inr ⟨by first | trivial | rfl, rfl, HO3.out⟩⟩

set_option maxHeartbeats 1000000 in
theorem rank_c (w : World) (a : Option Addr) (n cap : Nat) (M : Mask) (hn : M.length = n) (hm : n ≤ maxLen) (H : RowsAt w a M) :
    Calls Try.prog 31 #[.slice a n cap] w fun e w' => Below w.heap.size w w' ∧
      ((okM M = false ∧ e = .returned (.tuple #[.int .i64 0, .int .i64 1])) ∨ (okM M = true ∧ e = .returned (.tuple #[.int .i64 (rankF M (colsM M)), .int .i64 0]))) := by
  have HV := hid (maskValid_c w a n cap M hn hm H)
  cases hok : okM M
  · rw [hok] at HV
    clear hn H
    go_enter Try.func31, Try.ntmps31
    go_wp2_with (go_at_call 69; refine HV.out.mono ?_; rintro e w1 ⟨rfl, hb1⟩)
    go_ret2
    exact ⟨hb1, .inl ⟨by first | trivial | rfl, rfl⟩⟩
  · rw [hok] at HV
    obtain ⟨hM, h1, h6, hc1, hc10⟩ := okM_ok hok
    obtain ⟨b, off, ra, rc, rfl, hb, hc⟩ := rows_head H (by omega)
    have HR := hid H
    have HN := hid hn
    have HM := hid hM
    have hn0 : 0 < n := by omega
    obtain ⟨W, hW⟩ : ∃ W, W = colsM M := ⟨_, rfl⟩
    rw [← hW] at hc hc1 hc10 HM ⊢
    obtain ⟨rk, hrk⟩ : ∃ rk, rk = rankF M W := ⟨_, rfl⟩
    rw [← hrk]
    have HRK := hid hrk
    have hz : (0 : Int) < (n : Int) := by omega
    have hW1 : W ≤ 1000 := by omega
    have hn6 : n ≤ 6 := by omega
    clear hn H hM hok hW hrk
    go_enter Try.func31, Try.ntmps31
    go_wp2_with (go_at_call 69; refine HV.out.mono ?_; rintro e w1 ⟨rfl, hb1⟩; refine Stop.of ?_)
    refine Stop.go ?_
    have HS := hid (fun (X : World) (hX : Below w.heap.size w X) => (hX.cell (p := ⟨b, off, none⟩) hb).trans hc)
    have HRR := hid (fun (X : World) (hX : Below w.heap.size w X) => HR.out.below hX)
    have HB1 := hid hb1
    clear hb1 HR
    go_wp2
    refine region_cut (fun fr fr' X => ∃ v7 v8 v9 v10 v11 v12 v13 v14 v15 v16 v17 v18, fr' = ((((((((((((((fr.put (some 7) v7).put (some 8) v8).put (some 9) v9).put (some 10) v10).put (some 11) v11).put (some 12) v12).put (some 13) v13).put (some 14) v14).put (some 15) v15).put (some 16) v16).put (some 17) v17).put (some 18) v18).put (some 19) (.int .i64 rk)).put (some 2) (.int .i64 rk)).put (some 3) (.int .i64 0) ∧ Below w.heap.size w X) ?_ ?_
    · refine plain_region (fun j' X => wAll j' = true → X.cell? ⟨b, off, none⟩ = some (.slice ra W rc)) (by kernel_rfl) ?_
      have hbd : Below w.heap.size w w1.drew := HB1.out.drew
      generalize w1.drew = wd at hbd ⊢
      refine AnyT.takeD (i := 0) (v := .slice (some ⟨b, off, none⟩) n cap) rfl rfl (by kernel_rfl) (by kernel_rfl) (by kernel_rfl) (by first | exact (fun _ _ _ h => h) | exact (fun _ _ _ h => absurd h.1 (by simp))) (by kernel_rfl) (by rfl) (by rintro w' q5; go_simp) (HS.out _ hbd) ?_; go_frame
      refine AnyT.takeD (i := 1) (v := .slice (some ⟨b, off, none⟩) n cap) rfl rfl (by kernel_rfl) (by kernel_rfl) (by kernel_rfl) (by first | exact (fun _ _ _ h => h) | exact (fun _ _ _ h => absurd h.1 (by simp))) (by kernel_rfl) (by rfl) (by rintro w' q5; go_simp) (HS.out _ hbd) ?_; go_frame
      refine AnyT.takeD (i := 2) (v := .pointer (some ⟨b, off, none⟩)) rfl rfl (by kernel_rfl) (by kernel_rfl) (by kernel_rfl) (by first | exact (fun _ _ _ h => h) | exact (fun _ _ _ h => absurd h.1 (by simp))) (by kernel_rfl) (by rfl) (by rintro w' q5; go_simp) (HS.out _ hbd) ?_; go_frame
      refine AnyT.takeD (i := 3) (v := .slice ra W rc) rfl rfl (by kernel_rfl) (by kernel_rfl) (by kernel_rfl) (by first | exact (fun _ _ _ h => h) | exact (fun _ _ _ h => absurd h.1 (by simp))) (by kernel_rfl) (by rfl) (by rintro w' q5; go_simp) (HS.out _ hbd) ?_; go_frame
      refine AnyT.takeD (i := 4) (v := .int .i64 W) rfl rfl (by kernel_rfl) (by kernel_rfl) (by kernel_rfl) (by first | exact (fun _ _ _ h => h) | exact (fun _ _ _ h => absurd h.1 (by simp))) (by kernel_rfl) (by rfl) (by rintro w' q5; go_simp) (HS.out _ hbd) ?_; go_frame
      refine AnyT.takeD (i := 7) (v := .slice (some ⟨b, off, none⟩) n cap) rfl rfl (by kernel_rfl) (by kernel_rfl) (by kernel_rfl) (by first | exact (fun _ _ _ h => h) | exact (fun _ _ _ h => absurd h.1 (by simp))) (by kernel_rfl) (by rfl) (by rintro w' q5; go_simp) (HS.out _ hbd) ?_; go_frame
      refine AnyT.takeD (i := 8) (v := .pointer (some ⟨b, off, none⟩)) rfl rfl (by kernel_rfl) (by kernel_rfl) (by kernel_rfl) (by first | exact (fun _ _ _ h => h) | exact (fun _ _ _ h => absurd h.1 (by simp))) (by kernel_rfl) (by rfl) (by rintro w' q5; go_simp) (HS.out _ hbd) ?_; go_frame
      refine AnyT.takeD (i := 9) (v := .slice ra W rc) rfl rfl (by kernel_rfl) (by kernel_rfl) (by kernel_rfl) (by first | exact (fun _ _ _ h => h) | exact (fun _ _ _ h => absurd h.1 (by simp))) (by kernel_rfl) (by rfl) (by rintro w' q5; go_simp) (HS.out _ hbd) ?_; go_frame
      refine AnyT.takeD (i := 10) (v := .int .i64 W) rfl rfl (by kernel_rfl) (by kernel_rfl) (by kernel_rfl) (by first | exact (fun _ _ _ h => h) | exact (fun _ _ _ h => absurd h.1 (by simp))) (by kernel_rfl) (by rfl) (by rintro w' q5; go_simp) (HS.out _ hbd) ?_; go_frame
      refine AnyT.next (i := 5) (by kernel_rfl) rfl (wpOp_of_list rfl ?_)
      go_wp2_with (go_at_call 70; refine (all_c wd W hW1).mono ?_; rintro e w2 ⟨v, rfl, ho2, hb2⟩; refine Stop.of ?_)
      refine Stop.go ?_
      obtain ⟨va, vc, rfl, hi2, hm2⟩ := ints_of_own ho2 (allI_len W)
      have hbw2 := chain hbd hb2
      have HCH := hid (chosen_c w2 _ n cap M HN.out (by omega) (HRR.out _ hbw2) va W vc (allI W) (allI_len W) hW1 hi2 (fun r hr j hj => by rw [HM.out.wid r hr]; exact allI_mem hj) 80 #[] (enters_of Try.func80 (by kernel_rfl) rfl) (fun _ => []) (none_more w2 n) (fun i _ => ⟨by simp, by simp; omega⟩))
      rw [chosenF_none, cols_all HM.out.wid] at HCH
      clear ho2 hi2 hb2
      go_wp2
      refine ⟨fun _ => HS.out _ hbw2, ?_⟩
      refine AnyT.next (i := 6) (by kernel_rfl) rfl (wpOp_of_list rfl ?_)
      go_wp2_with (go_at_call 79; refine HCH.out.mono ?_; rintro e w3 ⟨v3, rfl, hO3, hb3⟩; refine Stop.of ?_)
      refine Stop.go ?_
      have hbw3 := chain hbw2 hb3
      have HRD := hid (reduce_c w3 w2.heap.size v3 M W (OwnT.of hO3) hb3.size HM.out.wid hW1 (by rw [HN.out]; omega) (by rw [HN.out]; omega) W (Nat.le_refl _) (fun t ht r hr => ⟨(HM.out.bnd ht r hr).1, fun x hx => by have := (HM.out.bnd ht r hr).2 x hx; omega⟩))
      have hbs2 := hbw2.size
      clear hO3 hb3 HCH
      go_wp2
      refine ⟨fun _ => HS.out _ hbw3, ?_⟩
      refine AnyT.next (i := 11) (by kernel_rfl) rfl (wpOp_of_list rfl ?_)
      go_wp2_with (go_at_call 78; refine HRD.out.mono ?_; rintro e w4 ⟨v4, rfl, hO4, hT4, hb4⟩; refine Stop.of ?_)
      refine Stop.go ?_
      have hbw4 : Below w.heap.size w w4 := hbw3.trans (hb4.mono hbs2)
      rw [intsJ_vals] at hO4
      obtain ⟨ja, jc, rfl, hJI, hJm⟩ := ints_of_own hO4 (intsJ_len _)
      have e4 : (pRed M W).2.length = rk := HRK.out.symm
      rw [e4]
      clear hO4 hT4 hb4 hJI hJm e4 HRD
      go_wp2
      refine ⟨fun _ => HS.out _ hbw4, ?_⟩
      refine AnyT.takeD (i := 12) (v := .int .i64 rk) rfl rfl (by kernel_rfl) (by kernel_rfl) (by kernel_rfl) (by first | exact (fun _ _ _ h => h) | exact (fun _ _ _ h => absurd h.1 (by simp))) (by kernel_rfl) (by rfl) (by rintro w' q5; go_simp) (HS.out _ hbw4) ?_; go_frame
      refine AnyT.takeD (i := 13) (v := .int .i64 rk) rfl rfl (by kernel_rfl) (by kernel_rfl) (by kernel_rfl) (by first | exact (fun _ _ _ h => h) | exact (fun _ _ _ h => absurd h.1 (by simp))) (by kernel_rfl) (by rfl) (by rintro w' q5; go_simp) (HS.out _ hbw4) ?_; go_frame
      refine AnyT.takeD (i := 14) (v := .int .i64 0) rfl rfl (by kernel_rfl) (by kernel_rfl) (by kernel_rfl) (by first | exact (fun _ _ _ h => h) | exact (fun _ _ _ h => absurd h.1 (by simp))) (by kernel_rfl) (by rfl) (by rintro w' q5; go_simp) (HS.out _ hbw4) ?_; go_frame
      exact ⟨by kernel_rfl, rfl, .slice (some ⟨b, off, none⟩) n cap, .slice (some ⟨b, off, none⟩) n cap, .pointer (some ⟨b, off, none⟩), .slice ra W rc, .int .i64 W, .slice va W vc, v3, .slice (some ⟨b, off, none⟩) n cap, .pointer (some ⟨b, off, none⟩), .slice ra W rc, .int .i64 W, .slice ja rk jc, (by go_frame), hbw4⟩
    · rintro a5 w5 ⟨v7, v8, v9, v10, v11, v12, v13, v14, v15, v16, v17, v18, rfl, hb5⟩
      go_frame
      go_wp2
      go_ret2
      exact ⟨hb5, .inr ⟨by first | trivial | rfl, rfl⟩⟩
end Go.Proofs.Ytfipebkhomppmaa

namespace Go.Proofs.Ytfipebkhomppmaa
open Go.RowKit
set_option linter.unusedVariables false

def HeadV (W : World) (xs : List Value) (L : List (List Int)) : Prop :=
  xs.length = L.length ∧ ∀ j (hj : j < L.length), ∃ ra rn rc, xs[j]? = some (.slice ra rn rc) ∧ L[j].length = rn ∧ rn ≤ maxLen ∧ IntsAt W ra L[j]
theorem HeadV.nil (W : World) : HeadV W [] [] := ⟨rfl, fun j hj => by simp at hj⟩
theorem HeadV.below {W W' : World} {xs : List Value} {L : List (List Int)} (h : HeadV W xs L) (hb : Below W.heap.size W W') : HeadV W' xs L :=
  ⟨h.1, fun j hj => by obtain ⟨ra, rn, rc, h1, h2, h3, h4⟩ := h.2 j hj; exact ⟨ra, rn, rc, h1, h2, h3, h4.below hb⟩⟩
theorem HeadV.one {W : World} {ra : Option Addr} {rn rc : Nat} {l : List Int} (hn : l.length = rn) (hm : rn ≤ maxLen) (h : IntsAt W ra l) : HeadV W [.slice ra rn rc] [l] :=
  ⟨rfl, fun j hj => by
    obtain rfl : j = 0 := by simp at hj; omega
    exact ⟨ra, rn, rc, rfl, hn, hm, h⟩⟩
theorem HeadV.append {W : World} {xs ys : List Value} {L K : List (List Int)} (h : HeadV W xs L) (k : HeadV W ys K) : HeadV W (xs ++ ys) (L ++ K) := by
  refine ⟨by simp [h.1, k.1], fun j hj => ?_⟩
  by_cases e : j < L.length
  · obtain ⟨ra, rn, rc, h1, h2, h3, h4⟩ := h.2 j e
    refine ⟨ra, rn, rc, by rw [List.getElem?_append_left (by rw [h.1]; exact e)]; exact h1, ?_, h3, ?_⟩
    · rw [List.getElem_append_left e]; exact h2
    · rw [List.getElem_append_left e]; exact h4
  · have hj2 : j - L.length < K.length := by simp at hj; omega
    obtain ⟨ra, rn, rc, h1, h2, h3, h4⟩ := k.2 (j - L.length) hj2
    refine ⟨ra, rn, rc, by rw [List.getElem?_append_right (by rw [h.1]; omega), h.1]; exact h1, ?_, h3, ?_⟩
    · rw [List.getElem_append_right (by omega)]; exact h2
    · rw [List.getElem_append_right (by omega)]; exact h4
theorem rows_of_own {W : World} {base n c : Nat} {T : TypeId} {a : Option Addr} {xs : List Value} {L : List (List Int)} (h : W.ownsRow base T 1 (.slice a n c) n xs) (hv : HeadV W xs L) (hl : L.length = n) : RowsAt W a L := by
  intro j hj
  rcases h.2 with ⟨_, h0⟩ | ⟨g, cap, cur, e, hg, hh, rest⟩
  · omega
  · cases e
    have hlt := (Array.getElem?_eq_some_iff.1 hh).1
    have hc : W.cell? ⟨g, j, none⟩ = xs[j]? := World.ownsRow.cellAt (w := W) (base := base) (e := T) (size := 1) (g := g) (n := n) (cap := c) (xs := xs) h j (by omega)
    obtain ⟨ra, rn, rc, h1, h2, h3, h4⟩ := hv.2 j hj
    exact ⟨g, 0, ra, rn, rc, rfl, hlt, by rw [Nat.zero_add, hc]; exact h1, h2, h3, h4⟩
end Go.Proofs.Ytfipebkhomppmaa

namespace Go.Proofs.Ytfipebkhomppmaa
section
open Go.RowKit
set_option linter.unusedVariables false

def RowS (W : World) (v : Value) (l : List Int) : Prop :=
  (∃ g c, v = .slice (some ⟨g, 0, none⟩) l.length c ∧ SpRow W g l) ∨ (l = [] ∧ ∃ a c, v = .slice a 0 c)
theorem RowS.sl {W : World} {v : Value} {l : List Int} (h : RowS W v l) (hm : l.length ≤ maxLen) : SlV W v l := by
  rcases h with ⟨g, c, rfl, hs⟩ | ⟨rfl, a, c, rfl⟩
  · exact ⟨_, _, _, rfl, rfl, hm, hs.ints⟩
  · exact ⟨_, _, _, rfl, rfl, Nat.zero_le _, fun j hj => by simp at hj⟩
theorem RowS.below {W W' : World} {v : Value} {l : List Int} (h : RowS W v l) (hb : Below W.heap.size W W') : RowS W' v l := by
  rcases h with ⟨g, c, rfl, hs⟩ | h
  · exact .inl ⟨g, c, rfl, hs.keep (hb.block g hs.lt)⟩
  · exact .inr h
def TabS (W : World) (base : Nat) (v : Value) (L : List (List Int)) : Prop :=
  ∃ vs, W.ownsRow base 31 1 v L.length vs ∧ ∀ j (hj : j < L.length), ∃ u, vs[j]? = some u ∧ RowS W u L[j]
theorem TabS.nil (W : World) (base : Nat) : TabS W base (.slice none 0 0) [] := ⟨[], World.ownsRow_nil _ _ _ _, fun j hj => by simp at hj⟩
theorem TabS.below {W W' : World} {base : Nat} {v : Value} {L : List (List Int)} (h : TabS W base v L) (hb : Below W.heap.size W W') : TabS W' base v L := by
  obtain ⟨vs, h1, h2⟩ := h
  refine ⟨vs, own_below h1 hb, fun j hj => ?_⟩
  obtain ⟨u, hu, hr⟩ := h2 j hj
  exact ⟨u, hu, hr.below hb⟩
theorem TabS.rows {W : World} {base n c : Nat} {a : Option Addr} {L : List (List Int)} (h : TabS W base (.slice a n c) L) (hl : L.length = n) (hm : ∀ r ∈ L, r.length ≤ maxLen) : RowsAt W a L := by
  obtain ⟨vs, h1, h2⟩ := h
  rw [hl] at h1
  refine rows_of_own (xs := vs) h1 ⟨by have := h1.1; omega, fun j hj => ?_⟩ hl
  obtain ⟨u, hu, hr⟩ := h2 j hj
  obtain ⟨ra, rn, rc, rfl, e1, e2, e3⟩ := hr.sl (hm _ (List.getElem_mem hj))
  exact ⟨ra, rn, rc, hu, e1, e2, e3⟩
theorem TabS.snoc {W w1 w3 : World} {base : Nat} {v v' u : Value} {L : List (List Int)} {r : List Int} {vs : List Value} (h1 : W.ownsRow base 31 1 v L.length vs)
    (h2 : ∀ j (hj : j < L.length), ∃ u, vs[j]? = some u ∧ RowS W u L[j]) (hb : Below W.heap.size W w1) (hr : RowS w1 u r) (hg : w1.grownBy w3 v.ownBlock)
    (ho' : w3.ownsRow base 31 1 v' (L.length + 1) (vs ++ [u])) : TabS w3 base v' (L ++ [r]) := by
  have hlen : vs.length = L.length := by have := h1.1; omega
  have hown : ∀ b, v.ownBlock = some b → ∃ c f, w1.heap[b]? = some (.cells c 31 f) := by
    intro b hb'
    rcases h1.2 with ⟨rfl, _⟩ | ⟨g, cap, cur, rfl, hbg, hgg, _⟩
    · simp [Value.ownBlock] at hb'
    · obtain rfl : g = b := by simpa [Value.ownBlock] using hb'
      exact ⟨cur, _, (hb.block g (Array.getElem?_eq_some_iff.1 hgg).1).trans hgg⟩
  have hold : ∀ b l, SpRow w1 b l → SpRow w3 b l := by
    intro b l hs
    refine hs.keep (hg.block b hs.lt ?_)
    intro e
    obtain ⟨c, f, hc⟩ := hown b e.symm
    obtain ⟨sp, hs⟩ := hs
    rw [hs] at hc
    simp at hc
  have hup : ∀ u l, RowS w1 u l → RowS w3 u l := by
    rintro u l (⟨g, c, rfl, hs⟩ | h)
    · exact .inl ⟨g, c, rfl, hold _ _ hs⟩
    · exact .inr h
  refine ⟨vs ++ [u], by simpa using ho', fun j hj => ?_⟩
  simp only [List.length_append, List.length_cons, List.length_nil, Nat.zero_add] at hj
  by_cases hjl : j < L.length
  · obtain ⟨u', hu', hr'⟩ := h2 j hjl
    rw [List.getElem_append_left hjl]
    exact ⟨u', by rw [List.getElem?_append_left (by omega)]; exact hu', hup _ _ (hr'.below hb)⟩
  · obtain rfl : j = L.length := by omega
    rw [List.getElem_append_right (Nat.le_refl _)]
    simp only [Nat.sub_self, List.getElem_cons_zero]
    exact ⟨u, by rw [List.getElem?_append_right (by omega), hlen]; simp, hup _ _ hr⟩
theorem TabS.at {W : World} {base n : Nat} {v : Value} {L : List (List Int)} (h : TabS W base v L) (hl : L.length = n) {i : Nat} (hi : i < n) :
    ∃ g0 cap u, v = .slice (some ⟨g0, 0, none⟩) n cap ∧ base ≤ g0 ∧ g0 < W.heap.size ∧ W.cell? ⟨g0, i, none⟩ = some u ∧ RowS W u (L[i]?.getD []) ∧ W.frozen? ⟨g0, i, none⟩ = false ∧
      ∀ u' r, RowS W u' r → TabS (W.setCell ⟨g0, i, none⟩ u') base v (L.set i r) ∧ ∀ k, k ≠ g0 → (W.setCell ⟨g0, i, none⟩ u').heap[k]? = W.heap[k]? := by
  subst hl
  obtain ⟨vs, h1, h2⟩ := h
  obtain ⟨u, hu, hr⟩ := h2 i hi
  rcases h1.2 with ⟨rfl, h0⟩ | ⟨g0, cap, cur, rfl, hbg, hgg, hnc, hcm, hsz, htk⟩
  · omega
  have hcell := World.ownsRow.cellAt (w := W) (base := base) (e := 31) (size := 1) (g := g0) (n := L.length) (cap := cap) (xs := vs) h1 i (by omega)
  have hvl : vs.length = L.length := by have := h1.1; omega
  refine ⟨g0, cap, u, rfl, hbg, (Array.getElem?_eq_some_iff.1 hgg).1, by rw [hcell]; exact hu, by rw [List.getElem?_eq_getElem hi]; exact hr, by simp [World.frozen?, hgg], ?_⟩
  intro u' r hr'
  have hkeep : ∀ k, k ≠ g0 → (W.setCell ⟨g0, i, none⟩ u').heap[k]? = W.heap[k]? := fun k hk => Below.heap_setCell _ _ _ _ hk
  have hup : ∀ u l, RowS W u l → RowS (W.setCell ⟨g0, i, none⟩ u') u l := by
    rintro u l (⟨g, c, rfl, hs⟩ | h)
    · refine .inl ⟨g, c, rfl, hs.keep (hkeep g ?_)⟩
      rintro rfl
      obtain ⟨sp, hs⟩ := hs
      rw [hgg] at hs
      cases hs
    · exact .inr h
  have hb2 : (W.setCell ⟨g0, i, none⟩ u').heap[g0]? = some (.cells (cur.setIfInBounds i u') 31 (0, 0)) := cells_set hgg i u'
  refine ⟨⟨vs.set i u', ⟨by simpa using h1.1, .inr ⟨g0, cap, cur.setIfInBounds i u', by simp, hbg, hb2, by simpa using hnc, hcm, by simpa using hsz, ?_⟩⟩, fun j hj => ?_⟩, hkeep⟩
  · rw [← htk]
    simp only [Array.toList_setIfInBounds, List.length_set, Nat.mul_one]
    rw [List.take_set]
  · have hj' : j < L.length := by simpa using hj
    by_cases e : i = j
    · subst e
      exact ⟨u', by simp [hvl, hj'], by simpa using hup _ _ hr'⟩
    · obtain ⟨u2, hu2, hr2⟩ := h2 j hj'
      exact ⟨u2, by rw [List.getElem?_set_ne e]; exact hu2, by rw [List.getElem_set_ne e]; exact hup _ _ hr2⟩
end

section
open Go.RowKit
set_option linter.unusedVariables false

theorem rowS_own {W : World} {b0 : Nat} {v : Value} {l : List Int} {n : Nat} (h : W.ownsRow b0 3 1 v n (l.map (Value.int .i64))) (hn : l.length = n) : RowS W v l := by
  rcases Nat.eq_zero_or_pos n with h0 | h0
  · obtain ⟨a, c, rfl⟩ := ownsRow_slice h
    subst h0
    exact .inr ⟨List.length_eq_zero_iff.1 hn, a, c, rfl⟩
  · obtain ⟨g, cap, rfl, _, hs⟩ := spRow_own h hn h0
    exact .inl ⟨g, cap, by rw [hn], hs⟩
theorem RowS.slice {W : World} {v : Value} {l : List Int} (h : RowS W v l) : ∃ a c, v = .slice a l.length c := by
  rcases h with ⟨g, c, rfl, _⟩ | ⟨rfl, a, c, rfl⟩
  · exact ⟨_, _, rfl⟩
  · exact ⟨_, _, rfl⟩
theorem colsF_take {M : List (List Int)} {S : List Int} {k : Nat} (hk : k < M.length) : (colsF M S).take (k + 1) = (colsF M S).take k ++ [S.map (fun j => vec M[k] j.toNat)] := by
  have hc : k < (colsF M S).length := by rw [colsF_len]; exact hk
  rw [List.take_succ_eq_append_getElem hc]
  congr 2
  simp [colsF]

end

section
open Go.RowKit
set_option linter.unusedVariables false

def RowN (N : Option Nat) (W : World) (v : Value) (l : List Int) : Prop :=
  (∃ g c, v = .slice (some ⟨g, 0, none⟩) l.length c ∧ SpRow W g l ∧ N ≠ some g) ∨ (l = [] ∧ ∃ a c, v = .slice a 0 c)
theorem RowN.row {N : Option Nat} {W : World} {v : Value} {l : List Int} (h : RowN N W v l) : RowS W v l := by
  rcases h with ⟨g, c, e, hs, _⟩ | h
  · exact .inl ⟨g, c, e, hs⟩
  · exact .inr h
def KeepN (N : Option Nat) (W W' : World) : Prop := ∀ k c, W.heap[k]? = some (.cells c 3 (0, 0)) → N ≠ some k → W'.heap[k]? = W.heap[k]?
theorem RowN.keep {N : Option Nat} {W W' : World} {v : Value} {l : List Int} (h : RowN N W v l) (hk : KeepN N W W') : RowN N W' v l := by
  rcases h with ⟨g, c, e, hs, hne⟩ | h
  · refine .inl ⟨g, c, e, ?_, hne⟩
    obtain ⟨sp, hs'⟩ := id hs
    exact hs.keep (hk g _ hs' hne)
  · exact .inr h
theorem KeepN.below {N : Option Nat} {W W' : World} (hb : Below W.heap.size W W') : KeepN N W W' := fun k c h _ => hb.block k (Array.getElem?_eq_some_iff.1 h).1
def TabN (N : Option Nat) (W : World) (base : Nat) (v : Value) (L : List (List Int)) : Prop :=
  ∃ vs, W.ownsRow base 31 1 v L.length vs ∧ ∀ j (hj : j < L.length), ∃ u, vs[j]? = some u ∧ RowN N W u L[j]
theorem TabN.nil (N : Option Nat) (W : World) (base : Nat) : TabN N W base (.slice none 0 0) [] := ⟨[], World.ownsRow_nil _ _ _ _, fun j hj => by simp at hj⟩
theorem own_kept {W W' : World} {base size n : Nat} {T : TypeId} {v : Value} {xs : List Value} (h : W.ownsRow base T size v n xs) (hk : ∀ k, v.ownBlock = some k → k < W.heap.size → W'.heap[k]? = W.heap[k]?) : W'.ownsRow base T size v n xs := by
  refine ⟨h.1, ?_⟩
  rcases h.2 with hn | ⟨g, cap, cur, rfl, hbg, hgg, rest⟩
  · exact .inl hn
  · exact .inr ⟨g, cap, cur, rfl, hbg, (hk g rfl (Array.getElem?_eq_some_iff.1 hgg).1).trans hgg, rest⟩
theorem own_low {W : World} {base b0 size n : Nat} {T : TypeId} {v : Value} {xs : List Value} (h : W.ownsRow base T size v n xs) (hb : b0 ≤ base) : W.ownsRow b0 T size v n xs := by
  refine ⟨h.1, ?_⟩
  rcases h.2 with hn | ⟨g, cap, cur, rfl, hbg, rest⟩
  · exact .inl hn
  · exact .inr ⟨g, cap, cur, rfl, Nat.le_trans hb hbg, rest⟩
theorem own_type {W : World} {base size n k : Nat} {T : TypeId} {v : Value} {xs : List Value} (h : W.ownsRow base T size v n xs) (hk : v.ownBlock = some k) : base ≤ k ∧ ∃ c, W.heap[k]? = some (.cells c T (0, 0)) := by
  rcases h.2 with ⟨rfl, _⟩ | ⟨g, cap, cur, rfl, hbg, hgg, _⟩
  · simp [Value.ownBlock] at hk
  · obtain rfl : g = k := by simpa [Value.ownBlock] using hk
    exact ⟨hbg, cur, hgg⟩
theorem TabN.type {N : Option Nat} {W : World} {base k : Nat} {v : Value} {L : List (List Int)} (h : TabN N W base v L) (hk : v.ownBlock = some k) : base ≤ k ∧ k < W.heap.size ∧ ∃ c, W.heap[k]? = some (.cells c 31 (0, 0)) := by
  obtain ⟨vs, h1, _⟩ := h
  obtain ⟨h2, c, h3⟩ := own_type h1 hk
  exact ⟨h2, (Array.getElem?_eq_some_iff.1 h3).1, c, h3⟩
theorem TabN.low {N : Option Nat} {W : World} {base b0 : Nat} {v : Value} {L : List (List Int)} (h : TabN N W base v L) (hb : b0 ≤ base) : TabN N W b0 v L := by
  obtain ⟨vs, h1, h2⟩ := h
  exact ⟨vs, own_low h1 hb, h2⟩
theorem TabN.keep {N : Option Nat} {W W' : World} {base : Nat} {v : Value} {L : List (List Int)} (h : TabN N W base v L) (hk : KeepN N W W') (ho : ∀ k, v.ownBlock = some k → k < W.heap.size → W'.heap[k]? = W.heap[k]?) : TabN N W' base v L := by
  obtain ⟨vs, h1, h2⟩ := h
  refine ⟨vs, own_kept h1 ho, fun j hj => ?_⟩
  obtain ⟨u, hu, hr⟩ := h2 j hj
  exact ⟨u, hu, hr.keep hk⟩
theorem TabN.below {N : Option Nat} {W W' : World} {base : Nat} {v : Value} {L : List (List Int)} (h : TabN N W base v L) (hb : Below W.heap.size W W') : TabN N W' base v L :=
  h.keep (KeepN.below hb) fun k _ hk => hb.block k hk
theorem TabN.other {N N' : Option Nat} {W : World} {base : Nat} {v : Value} {L : List (List Int)} (h : TabN N W base v L) (hN : N' = N ∨ N' = some W.heap.size) : TabN N' W base v L := by
  obtain ⟨vs, h1, h2⟩ := h
  refine ⟨vs, h1, fun j hj => ?_⟩
  obtain ⟨u, hu, hr⟩ := h2 j hj
  refine ⟨u, hu, ?_⟩
  rcases hr with ⟨g, c, e, hs, hne⟩ | hr
  · refine .inl ⟨g, c, e, hs, ?_⟩
    rcases hN with rfl | rfl
    · exact hne
    · intro e
      have h1 : W.heap.size = g := by simpa using e
      have := hs.lt
      omega
  · exact .inr hr
theorem TabN.piv {W W' : World} {base b2 n : Nat} {v p p' : Value} {xs : List Value} {L : List (List Int)} (h : TabN p.ownBlock W base v L) (hg : W.grownBy W' p.ownBlock) (hat : p'.ownBlock = p.ownBlock ∨ p'.ownBlock = some W.heap.size)
    (hP : W.ownsRow b2 3 1 p n xs) : TabN p'.ownBlock W' base v L := by
  have h1 : TabN p.ownBlock W' base v L := by
    refine h.keep (fun k c hk hne => hg.block k (Array.getElem?_eq_some_iff.1 hk).1 (fun e => hne e.symm)) fun k hk hlt => hg.block k hlt fun e => ?_
    obtain ⟨_, _, c, hc⟩ := h.type hk
    obtain ⟨_, c2, hc2⟩ := own_type hP e.symm
    rw [hc] at hc2
    cases hc2
  have hlt : ∀ u l, RowN p.ownBlock W u l → RowN p'.ownBlock W' u l := by
    intro u l hr
    rcases hr with ⟨g, c, e, hs, hne⟩ | hr
    · refine .inl ⟨g, c, e, ?_, ?_⟩
      · obtain ⟨sp, hs'⟩ := id hs
        exact hs.keep (hg.block g hs.lt (fun e => hne e.symm))
      · rcases hat with hat | hat
        · rw [hat]; exact hne
        · rw [hat]; intro e
          have h1 : W.heap.size = g := by simpa using e
          have := hs.lt
          omega
    · exact .inr hr
  obtain ⟨vs, h2, h3⟩ := h
  obtain ⟨vs', h4, _⟩ := h1
  refine ⟨vs, own_kept h2 fun k hk hlt' => hg.block k hlt' fun e => ?_, fun j hj => ?_⟩
  · obtain ⟨_, c, hc⟩ := own_type h2 hk
    obtain ⟨_, c2, hc2⟩ := own_type hP e.symm
    rw [hc] at hc2
    cases hc2
  · obtain ⟨u, hu, hr⟩ := h3 j hj
    exact ⟨u, hu, hlt _ _ hr⟩
theorem TabN.snoc {N : Option Nat} {w1 w3 : World} {base : Nat} {v v' u : Value} {L : List (List Int)} {r : List Int} {vs : List Value} (h1 : w1.ownsRow base 31 1 v L.length vs)
    (h2 : ∀ j (hj : j < L.length), ∃ u, vs[j]? = some u ∧ RowN N w1 u L[j]) (hr : RowN N w1 u r) (hg : w1.grownBy w3 v.ownBlock)
    (ho' : w3.ownsRow base 31 1 v' (L.length + 1) (vs ++ [u])) : TabN N w3 base v' (L ++ [r]) := by
  have hlen : vs.length = L.length := by have := h1.1; omega
  have hK : KeepN N w1 w3 := fun k c hc hn => hg.block k (Array.getElem?_eq_some_iff.1 hc).1 fun e => by
    obtain ⟨_, c2, h2⟩ := own_type h1 e.symm
    rw [h2] at hc
    cases hc
  refine ⟨vs ++ [u], by simpa using ho', fun j hj => ?_⟩
  simp only [List.length_append, List.length_cons, List.length_nil, Nat.zero_add] at hj
  by_cases hjl : j < L.length
  · obtain ⟨u', hu', hr'⟩ := h2 j hjl
    rw [List.getElem_append_left hjl]
    exact ⟨u', by rw [List.getElem?_append_left (by omega)]; exact hu', hr'.keep hK⟩
  · obtain rfl : j = L.length := by omega
    rw [List.getElem_append_right (Nat.le_refl _)]
    simp only [Nat.sub_self, List.getElem_cons_zero]
    exact ⟨u, by rw [List.getElem?_append_right (by omega), hlen]; simp, hr.keep hK⟩
theorem TabN.at {N : Option Nat} {W : World} {base n : Nat} {v : Value} {L : List (List Int)} (h : TabN N W base v L) (hl : L.length = n) {i : Nat} (hi : i < n) :
    ∃ g0 cap u, v = .slice (some ⟨g0, 0, none⟩) n cap ∧ base ≤ g0 ∧ g0 < W.heap.size ∧ (∃ c, W.heap[g0]? = some (.cells c 31 (0, 0))) ∧ W.cell? ⟨g0, i, none⟩ = some u ∧ RowN N W u (L[i]?.getD []) ∧ W.frozen? ⟨g0, i, none⟩ = false ∧
      ∀ u' r, RowN N W u' r → TabN N (W.setCell ⟨g0, i, none⟩ u') base v (L.set i r) ∧ ∀ k, k ≠ g0 → (W.setCell ⟨g0, i, none⟩ u').heap[k]? = W.heap[k]? := by
  subst hl
  obtain ⟨vs, h1, h2⟩ := h
  obtain ⟨u, hu, hr⟩ := h2 i hi
  rcases h1.2 with ⟨rfl, h0⟩ | ⟨g0, cap, cur, rfl, hbg, hgg, hnc, hcm, hsz, htk⟩
  · omega
  have hcell := World.ownsRow.cellAt (w := W) (base := base) (e := 31) (size := 1) (g := g0) (n := L.length) (cap := cap) (xs := vs) h1 i (by omega)
  have hvl : vs.length = L.length := by have := h1.1; omega
  refine ⟨g0, cap, u, rfl, hbg, (Array.getElem?_eq_some_iff.1 hgg).1, ⟨cur, hgg⟩, by rw [hcell]; exact hu, by rw [List.getElem?_eq_getElem hi]; exact hr, by simp [World.frozen?, hgg], ?_⟩
  intro u' r hr'
  have hkeep : ∀ k, k ≠ g0 → (W.setCell ⟨g0, i, none⟩ u').heap[k]? = W.heap[k]? := fun k hk => Below.heap_setCell _ _ _ _ hk
  have hK : KeepN N W (W.setCell ⟨g0, i, none⟩ u') := fun k c hc hn => hkeep k fun e => by
    subst e
    rw [hgg] at hc
    cases hc
  have hb2 : (W.setCell ⟨g0, i, none⟩ u').heap[g0]? = some (.cells (cur.setIfInBounds i u') 31 (0, 0)) := cells_set hgg i u'
  refine ⟨⟨vs.set i u', ⟨by simpa using h1.1, .inr ⟨g0, cap, cur.setIfInBounds i u', by simp, hbg, hb2, by simpa using hnc, hcm, by simpa using hsz, ?_⟩⟩, fun j hj => ?_⟩, hkeep⟩
  · rw [← htk]
    simp only [Array.toList_setIfInBounds, List.length_set, Nat.mul_one]
    rw [List.take_set]
  · have hj' : j < L.length := by simpa using hj
    by_cases e : i = j
    · subst e
      exact ⟨u', by simp [hvl, hj'], by simpa using hr'.keep hK⟩
    · obtain ⟨u2, hu2, hr2⟩ := h2 j hj'
      exact ⟨u2, by rw [List.getElem?_set_ne e]; exact hu2, by rw [List.getElem_set_ne e]; exact hr2.keep hK⟩
end

section
open Go.RowKit
set_option linter.unusedVariables false

def castL (l : List Nat) : List Int := l.map (fun j : Nat => (j : Int))
def RedI (w wr : World) (L : List (List Int)) (j : Nat) (l d p : Value) : Prop :=
  TabN p.ownBlock wr w.heap.size l (rRed L j).left ∧ TabN p.ownBlock wr w.heap.size d (rRed L j).done ∧ wr.ownsRow w.heap.size 3 1 p (rRed L j).piv.length ((castL (rRed L j).piv).map (Value.int .i64)) ∧ Below w.heap.size w wr
structure RedS (w : World) (R0 : Nat) (wr : World) (l d r q p : Value) (left done rest : List (List Int)) (P : List Int) (J : List Nat) : Prop where
  hl : TabN p.ownBlock wr w.heap.size l left
  hd : TabN p.ownBlock wr w.heap.size d done
  hr : TabN p.ownBlock wr R0 r rest
  hq : RowN p.ownBlock wr q P
  hp : wr.ownsRow w.heap.size 3 1 p J.length ((castL J).map (Value.int .i64))
  hb : Below w.heap.size w wr
  hR : R0 ≤ wr.heap.size
  hw : w.heap.size ≤ R0
  lR : ∀ k, l.ownBlock = some k → k < R0
  dR : ∀ k, d.ownBlock = some k → k < R0
  pR : ∀ k, p.ownBlock = some k → k < R0
theorem RedS.below {w : World} {R0 : Nat} {A B : World} {l d r q p : Value} {left done rest : List (List Int)} {P : List Int} {J : List Nat} (h : RedS w R0 A l d r q p left done rest P J) (hb : Below A.heap.size A B) : RedS w R0 B l d r q p left done rest P J :=
  ⟨h.hl.below hb, h.hd.below hb, h.hr.below hb, h.hq.keep (KeepN.below hb), own_below h.hp hb, chain h.hb hb, Nat.le_trans h.hR hb.size, h.hw, h.lR, h.dR, h.pR⟩
theorem TabN.lt {N : Option Nat} {W : World} {base : Nat} {v : Value} {L : List (List Int)} (h : TabN N W base v L) {k : Nat} (hk : v.ownBlock = some k) : k < W.heap.size := (h.type hk).2.1
theorem RedS.start {w wr : World} {L : List (List Int)} {j : Nat} {l d p q : Value} {P : List Int} (h : RedI w wr L j l d p) (hq : RowN p.ownBlock wr q P) : RedS w wr.heap.size wr l d (.slice none 0 0) q p (rRed L j).left (rRed L j).done [] P (rRed L j).piv :=
  ⟨h.1, h.2.1, TabN.nil _ _ _, hq, h.2.2.1, h.2.2.2, Nat.le_refl _, h.2.2.2.size, fun k hk => h.1.lt hk, fun k hk => h.2.1.lt hk, fun k hk => by
    obtain ⟨_, c, hc⟩ := own_type h.2.2.1 hk
    exact (Array.getElem?_eq_some_iff.1 hc).1⟩
end
end Go.Proofs.Ytfipebkhomppmaa

namespace Go.Proofs.Ytfipebkhomppmaa
set_option linter.unusedVariables false

theorem upF_get : ∀ (m : Nat) (a : Int) (j : Nat), j < m → (upF a m)[j]? = some (a + j)
  | 0, _, _, h => by omega
  | m + 1, a, 0, _ => by simp [upF]
  | m + 1, a, j + 1, h => by
    show (upF (a + 1) m)[j]? = _
    rw [upF_get m (a + 1) j (by omega)]; congr 1; omega
theorem upF_snoc : ∀ (m : Nat) (a : Int), upF a (m + 1) = upF a m ++ [a + m]
  | 0, a => by simp [upF]
  | m + 1, a => by
    show a :: upF (a + 1) (m + 1) = a :: (upF (a + 1) m ++ _)
    rw [upF_snoc m (a + 1)]
    congr 3; omega
theorem upF_range (m : Nat) : ∀ a : Nat, upF (a : Int) m = (List.range' a m).map (fun j : Nat => (j : Int)) := by
  induction m with
  | zero => intro a; rfl
  | succ m ih =>
    intro a
    show (a : Int) :: upF ((a : Int) + 1) m = _
    have := ih (a + 1)
    rw [show ((a : Int) + 1) = ((a + 1 : Nat) : Int) by omega, this]
    simp [List.range'_succ]

def TailAt (n k : Nat) (x : List Int) (m : Nat) : Prop := ∀ j, m ≤ j → j < k → x[j]? = some ((n : Int) - k + j)

theorem tail_le {n k m : Nat} {x : List Int} (hl : x.length = k) (hp : x.Pairwise (· < ·)) (hb : ∀ y ∈ x, y < (n : Int)) (hm : m < k) (ht : TailAt n k x (m + 1)) : x[m]?.getD 0 ≤ (n : Int) - k + m := by
  have hml : m < x.length := by omega
  rw [List.getElem?_eq_getElem hml]
  by_cases e : m + 1 = k
  · have := hb _ (List.getElem_mem hml); simp; omega
  · have h1 := ht (m + 1) (Nat.le_refl _) (by omega)
    have hml1 : m + 1 < x.length := by omega
    rw [List.getElem?_eq_getElem hml1] at h1
    have h2 := List.pairwise_iff_getElem.1 hp m (m + 1) hml hml1 (by omega)
    have h3 := Option.some.inj h1
    simp; omega
theorem tail_step {n k m : Nat} {x : List Int} (hl : x.length = k) (hm : m < k) (ht : TailAt n k x (m + 1)) (he : x[m]?.getD 0 = (n : Int) - k + m) : TailAt n k x m := by
  intro j h1 h2
  by_cases e : j = m
  · subst e
    rw [List.getElem?_eq_getElem (by omega)] at he ⊢
    rw [← he]; rfl
  · exact ht j (by omega) h2
theorem tail_drop {n k m : Nat} {x : List Int} (hl : x.length = k) (hk : k ≤ n) (hm : m ≤ k) (ht : TailAt n k x m) : x.drop m = upF ((n : Int) - (k - m : Nat)) (k - m) := by
  apply List.ext_getElem?
  intro j
  rw [List.getElem?_drop]
  rcases Nat.lt_or_ge j (k - m) with h | h
  · rw [ht (m + j) (by omega) (by omega), upF_get _ _ _ h]; congr 1; omega
  · rw [List.getElem?_eq_none (by omega), List.getElem?_eq_none (by rw [upF_len]; omega)]

theorem next_none {n k : Nat} {x : List Int} (hl : x.length = k) (hk : k ≤ n) (ht : TailAt n k x 0) : nextS n x = none := by
  have := tail_drop hl hk (Nat.zero_le _) ht
  rw [List.drop_zero, Nat.sub_zero] at this
  rw [this]
  exact nextS_up k _ (by omega)
def fillS (x : List Int) (m j : Nat) : List Int := x.take m ++ upF (x[m]?.getD 0 + 1) (j - m) ++ x.drop j
theorem fillS_len {x : List Int} {m j : Nat} (h1 : m ≤ j) (h2 : j ≤ x.length) : (fillS x m j).length = x.length := by
  unfold fillS; simp [upF_len]; omega
theorem fillS_get {x : List Int} {m j : Nat} (h1 : m < j) (h2 : j ≤ x.length) : (fillS x m j)[j - 1]?.getD 0 = x[m]?.getD 0 + (j - m : Nat) := by
  unfold fillS
  rw [List.getElem?_append_left (by simp [upF_len]; omega), List.getElem?_append_right (by simp; omega)]
  simp only [List.length_take]
  rw [show j - 1 - min m x.length = j - m - 1 by omega, upF_get _ _ _ (by omega)]
  simp; omega
theorem fillS_set {x : List Int} {m j : Nat} (h1 : m ≤ j) (h2 : j < x.length) : (fillS x m j).set j (x[m]?.getD 0 + (j + 1 - m : Nat)) = fillS x m (j + 1) := by
  unfold fillS
  have hl : (x.take m ++ upF (x[m]?.getD 0 + 1) (j - m)).length = j := by simp [upF_len]; omega
  rw [List.set_append_right _ _ (by omega), hl, Nat.sub_self, List.drop_eq_getElem_cons h2, List.set_cons_zero, show j + 1 - m = (j - m) + 1 by omega, upF_snoc]
  simp
  omega
theorem fillS_start {x : List Int} {m : Nat} (hm : m < x.length) : x.set m (x[m]?.getD 0 + 1) = fillS x m (m + 1) := by
  have := fillS_set (x := x) (m := m) (j := m) (Nat.le_refl _) hm
  rw [show m + 1 - m = 1 by omega] at this
  unfold fillS at this ⊢
  rw [← this]
  simp [upF]
theorem fillS_done {n k m : Nat} {x : List Int} (hl : x.length = k) (hk : k ≤ n) (hm : m < k) (ht : TailAt n k x (m + 1)) (hlt : x[m]?.getD 0 < (n : Int) - k + m) : nextS n x = some (fillS x m k) := by
  have h1 := tail_drop hl hk (by omega) ht
  have hml : m < x.length := by omega
  have hx : x = x.take m ++ x[m] :: upF ((n : Int) - (k - (m + 1) : Nat)) (k - (m + 1)) := by
    rw [← h1, ← List.drop_eq_getElem_cons hml, List.take_append_drop]
  have hd : x[m]?.getD 0 = x[m] := by rw [List.getElem?_eq_getElem hml]; rfl
  rw [hd] at hlt
  have h2 := nextS_at (n := (n : Int)) (m := k - (m + 1)) (d := x[m]) (by omega) (x.take m)
  rw [← hx] at h2
  rw [h2]
  unfold fillS
  rw [hd, List.drop_eq_nil_of_le (by omega), List.append_nil, show k - (m + 1) + 1 = k - m by omega]

theorem take_snoc_at {α : Type} {l : List α} {i : Nat} {x : α} (h : l[i]? = some x) : l.take i ++ [x] = l.take (i + 1) := by
  obtain ⟨hi, rfl⟩ := List.getElem?_eq_some_iff.1 h
  rw [List.take_succ_eq_append_getElem hi]
theorem take_all_at {α : Type} {l : List α} {i : Nat} {x : α} (h : l[i]? = some x) (hn : l[i + 1]? = none) : l.take (i + 1) = l := by
  exact List.take_of_length_le (List.getElem?_eq_none_iff.1 hn)
end Go.Proofs.Ytfipebkhomppmaa
